/- The statement WalPrefix: its function prefix; what a crash leaves of a text. Conditions: sizes. -/
import Derived.Test.YtjjhbpjbngdlnaaDoorRlE
set_option linter.unusedSimpArgs false
set_option linter.unusedVariables false
namespace Go.Proofs.YtjjhbpjbngdlnaaDoor
open Go.RowKit

theorem DD.rd_map (D : DD) (N j : Nat) (hj : j < N) : DD.read ⟨(List.range N).map D.read, []⟩ j = D.read j := by
  rw [DD.rdN _ rfl, List.getD_eq_getElem?_getD, List.getElem?_map, List.getElem?_range hj]
  rfl
theorem allD_map (D : DD) (N : Nat) : ∀ n, n ≤ N → allD ⟨(List.range N).map D.read, []⟩ 0 n = allD D 0 n
  | 0, _ => rfl
  | n + 1, h => by rw [← allD_snoc, ← allD_snoc, allD_map D N n (by omega), DD.rd_map D N _ (by omega)]
theorem DD.Ok.map {D : DD} (h : D.Ok) {N : Nat} (hN : D.secs.length = N) : DD.Ok ⟨(List.range N).map D.read, []⟩ := by
  have h1 := h.pos
  have h2 := h.max
  refine ⟨by simp; omega, by simp; omega, ?_, by simp, by simp⟩
  intro s hs
  obtain ⟨j, hj, rfl⟩ := List.mem_map.1 hs
  exact h.rd j (by have := List.mem_range.1 hj; omega)

/-- What prefix answers. -/
def PrefR (b N n c : Nat) (D : DD) (q : Option Addr) (ds : List (List UInt8)) (v : Value) (l : List Assn) : Prop := ∃ bb k s R, v = .bool bb ∧ scanW (allD D 0 N) (N * 256 + 1) 0 0 = (k, s, R) ∧ (bb = true → R.length ≤ ds.length ∧ ∀ i (hi : i < R.length), ds[i]? = some R[i].2) ∧ l = [dskA b D, rS (.slice q n c) n ds]

set_option maxHeartbeats 4000000 in
set_option maxRecDepth 100000 in
theorem Rl.prefixed (B : Base) (b : Nat) (D : DD) (N : Nat) (hN : D.secs.length = N) (hD : D.Ok) (hp : D.pend.length < 2 ^ 32) (q : Option Addr) (c n : Nat) (ds : List (List UInt8)) (hn : ds.length = n) (hn2 : n < 2 ^ 40) :
    Fn Tryd.prog B 46 #[.pointer (some ⟨b, 0, none⟩), .slice q n c] [dskA b D, rS (.slice q n c) n ds] (PrefR b N n c D q ds) := by
  have hmax : N ≤ 4096 := by rw [← hN]; exact hD.max
  have hpos : 0 < N := by rw [← hN]; exact hD.pos
  refine Fn.enter2 67 Tryd.func46 rfl rfl (Nat.le_of_ble_eq_true rfl) (fun F => ?_)
  try simp only [List.cons_append, List.nil_append]
  refine T.own (fun w ho => ?_)
  have hq : 0 < n → ∃ g, q = some ⟨g, 0, none⟩ := (ho.slice_at (p := q) (m := n) (c := c)).2.1
  clear ho
  refine T.seq ?_
  refine T.region ?_
  refine LW.q rfl (Qt.assign rfl) ?_
  refine LW.done ?_
  refine T.seq ?_
  refine T.region ?_
  refine LW.e rfl (Ef.alloc [.slice none 0 0, .slice none 0 0] (by unfold zeroB; kernel_rfl) ?_)
  intro g5
  refine LW.done ?_
  refine T.seq ?_
  refine T.seq ?_
  refine T.region ?_
  refine LW.q rfl (Qt.assign rfl) ?_
  refine LW.done ?_
  refine T.block ?_
  refine T.conv (fun w ho => Rf.nilS ho) ?_
  refine T.loop (fun mz fz lz => ∃ (f0 : Fr) (k : Nat) (p : Option Addr) (a : Nat) (Sc : List (List UInt8)), (k ≤ N ∧ Sc = (List.range k).map D.read) ∧ mz = N - k ∧ fz = (upd (upd (upd (upd f0 0 (.pointer (some ⟨b, 0, none⟩))) 1 (.slice q n c)) 5 (.pointer (some ⟨g5, 0, none⟩))) 6 (.int .i64 k)) ∧ lz = rS (.slice p k a) k Sc :: blk g5 [.slice p k a, .slice none 0 0] 63 :: dskA b D :: rS (.slice q n c) n ds :: F) ?_ ?_
  · refine ⟨_, _, ⟨_, 0, none, 0, [], ⟨Nat.zero_le _, rfl⟩, rfl, (updS rfl (updS rfl (updS rfl (updS rfl rfl)))), rfl⟩, Sub.any⟩
  · skip
    rintro mz fz lz ⟨f0, k, p, a, Sc, ⟨hk, hS⟩, hmz, rfl, rfl⟩
    subst mz
    try simp only [List.cons_append, List.nil_append]
    refine T.seq ?_
    refine T.seq ?_
    refine T.region ?_
    refine LW.q rfl (Qt.move rfl) ?_
    refine LW.q rfl (Qt.move rfl) ?_
    refine LW.q rfl (Qt.nilCheck rfl) ?_
    refine LW.q rfl (Qt.fieldAddr0 (by kernel_rfl) rfl) ?_
    refine LW.e rfl (Ef.call (Dk.sectorsF B b D) Tryd.func58 rfl rfl rfl ?_)
    rintro _ _ ⟨rfl, rfl⟩
    try simp only [List.cons_append, List.nil_append]
    rw [hN]
    refine LW.q rfl (Qt.lss rfl rfl) ?_
    refine LW.done ?_
    refine T.condP rfl (fun hlt => ?_) (fun hlt => ?_)
    · skip
      have hrl : (D.read k).length = 256 := hD.rd k (by omega)
      refine T.skip ?_
      refine T.seq ?_
      refine T.block ?_
      refine T.seq ?_
      refine T.region ?_
      refine LW.q rfl (Qt.move rfl) ?_
      refine LW.q rfl (Qt.move rfl) ?_
      refine LW.e rfl (Ef.call (Dk.readF B b D k _ rfl (by omega) (by omega)) Tryd.func43 rfl rfl rfl ?_)
      rintro _ _ ⟨g, cap, rfl, rfl⟩
      try simp only [List.cons_append, List.nil_append]
      refine LW.q rfl (Qt.move rfl) ?_
      refine LW.q rfl (Qt.extract rfl rfl) ?_
      refine LW.q rfl (Qt.extract rfl rfl) ?_
      refine LW.q rfl (Qt.assign rfl) ?_
      refine LW.q rfl (Qt.assign rfl) ?_
      refine LW.done ?_
      refine T.region ?_
      refine LW.q rfl (Qt.fieldAddr0 (by kernel_rfl) rfl) ?_
      first | refine LW.q rfl (Qt.load (by kernel_rfl) rfl rfl) ?_ | refine LW.q rfl (Qt.load (by kernel_rfl) rfl (map_at _ _ _ (by omega))) ?_ | refine LW.q rfl (Qt.load (by kernel_rfl) rfl (flat_cell0 _ _ _ (by intros; rfl) _ (by omega) (by rfl))) ?_ | refine LW.q rfl (Qt.load (by kernel_rfl) rfl (flat_cell _ _ _ (by intros; rfl) _ _ (by omega) (by rfl))) ?_ | refine LW.q rfl (Qt.load (by kernel_rfl) rfl (bytes_at _ _ (by omega))) ?_
      refine LW.q rfl (Qt.move rfl) ?_
      refine LW.q rfl (Qt.str (D.read k) (by kernel_rfl) (by kernel_rfl) rfl (fun _ ho => ho.reads_row hrl)) ?_
      refine LW.e rfl (Ef.one [_] (e := 9) (sz := 1) (by kernel_rfl) ⟨.string .empty, by kernel_rfl, rfl⟩ rfl rfl rfl (by omega) (by omega) ?_)
      intro g32
      refine LW.e rfl (Ef.append Rf.elemS rfl rfl (SrcOf.blk (by kernel_rfl) rfl (by simp [Value.oneCell'])) (by unfold maxLen; omega) (by omega) ?_)
      rintro p2 a2 hp2
      try simp only [List.cons_append, List.nil_append]
      rw [show Value.string (strOf (D.read k)) = strW (D.read k) from rfl, map_snoc]
      refine LW.q rfl (Qt.fieldAddr0 (by kernel_rfl) rfl) ?_
      refine LW.e0 rfl (Ef.store1 (by kernel_rfl) rfl rfl rfl (by first | (simp; done) | (simp; omega)) ?_)
      try simp only [List.set_cons_zero, List.set_cons_succ]
      refine LW.done ?_
      refine T.region ?_
      refine LW.q rfl (Qt.move rfl) ?_
      refine LW.q rfl (Qt.add rfl rfl (wr64 (by omega) (by omega))) ?_
      refine LW.q rfl (Qt.assign rfl) ?_
      refine LW.done ?_
      refine ⟨_, ?_, _, ⟨_, k + 1, p2, a2, Sc ++ [D.read k], ⟨by omega, by rw [hS, List.range_succ, List.map_append]; rfl⟩, rfl, (updS rfl (updS rfl (updS rfl (updS rfl rfl)))), rfl⟩, Sub.any⟩
      first | omega | (simp; omega)
    · skip
      obtain rfl : k = N := by omega
      refine T.conv (fun w ho => Rf.nilW ho) ?_
      refine T.exit ?_
      refine T.seq ?_
      refine T.drawBl 16 none (by kernel_rfl) (Nat.le_of_ble_eq_true rfl) (by kernel_rfl) ?_
      first | refine RW.q 0 rfl rfl (by kernel_rfl) Sub.any (Qt.loadAgg [_, _] (by kernel_rfl) rfl ⟨rfl, rfl, trivial⟩) ?_ | refine RW.q 0 rfl rfl (by kernel_rfl) Sub.any (Qt.loadAgg [_, _] (by kernel_rfl) rfl (by exact rdl_flat _ _ _ (by intros; rfl) _ (by omega))) ?_
      refine RW.q 1 rfl rfl (by kernel_rfl) Sub.any (Qt.move rfl) ?_
      refine RW.q 2 rfl rfl (by kernel_rfl) Sub.any (Qt.nilCheck rfl) ?_
      refine RW.q 3 rfl rfl (by kernel_rfl) Sub.any (Qt.fieldAddr0 (by kernel_rfl) rfl) ?_
      refine RW.all [4, 11, 12] (by kernel_rfl) (List.forall_mem_cons.2 ⟨?_, List.forall_mem_cons.2 ⟨?_, List.forall_mem_cons.2 ⟨?_, List.forall_mem_nil _⟩⟩⟩)
      · skip
        refine RO.eS rfl rfl (Ef.call (Dk.sectorsF B b D) Tryd.func58 rfl rfl rfl ?_)
        rintro _ _ ⟨rfl, rfl⟩
        try simp only [List.cons_append, List.nil_append]
        rw [hN]
        refine ⟨Sub.any, ?_⟩
        refine RW.all [5, 11, 12] (by kernel_rfl) (List.forall_mem_cons.2 ⟨?_, List.forall_mem_cons.2 ⟨?_, List.forall_mem_cons.2 ⟨?_, List.forall_mem_nil _⟩⟩⟩)
        · skip
          refine RO.eS rfl rfl (Ef.call (Rl.open B ⟨Sc, []⟩ p none a 0 k 0 (by rw [hS]; simp) rfl (by rw [hS]; exact hD.map hN) (by omega) 0 k 0 k rfl rfl (by omega) (by omega)) Tryd.func29 rfl rfl rfl ?_)
          rintro _ _ ⟨p4, a4, kk, ss, R, q4, cq4, x1, rfl, rfl⟩
          try simp only [List.cons_append, List.nil_append]
          rw [hS, allD_map D k k (Nat.le_refl _)] at x1
          have hRl : R.length < 2 ^ 40 := by obtain ⟨es, _, k2, _, k4⟩ := scan_back (k * 256 + 1) 0 0 (allD D 0 k) (Nat.zero_le _); rw [x1] at k2; injection k2 with _ k2; injection k2 with _ k2; rw [k2, length_logR]; have h5 := length_logB_le 0 0 es; have h6 := allD_length hD (first := 0) k (by omega); omega
          refine ⟨Sub.any, ?_⟩
          refine RW.q 6 rfl rfl (by kernel_rfl) Sub.any (Qt.move rfl) ?_
          refine RW.q 7 rfl rfl (by kernel_rfl) Sub.any (Qt.extract rfl rfl) ?_
          refine RW.q 8 rfl rfl (by kernel_rfl) Sub.any (Qt.extract rfl rfl) ?_
          refine RW.q 9 rfl rfl (by kernel_rfl) Sub.any (Qt.extract rfl rfl) ?_
          refine RW.q 10 rfl rfl (by kernel_rfl) Sub.any (Qt.extract rfl rfl) ?_
          refine RW.all [11, 12] (by kernel_rfl) (List.forall_mem_cons.2 ⟨?_, List.forall_mem_cons.2 ⟨?_, List.forall_mem_nil _⟩⟩)
          · skip
            refine RO.eS rfl rfl (Ef.alloc [.slice none 0 0, .slice none 0 0] (by unfold zeroB; kernel_rfl) ?_)
            intro g9
            refine ⟨Sub.any, ?_⟩
            refine RW.one 12 (by kernel_rfl) ?_
            refine RO.eS rfl rfl (Ef.alloc [.string .empty, .int .u32 0, .int .i64 0, .int .i64 0, .int .i64 0] (by unfold zeroB; kernel_rfl) ?_)
            intro g10
            refine ⟨Sub.any, ?_⟩
            refine RW.one 13 (by kernel_rfl) ?_
            refine RO.eS0 rfl rfl (Ef.store [_, _] (by kernel_rfl) rfl rfl rfl rfl (by simp) ?_)
            try simp only [splice, List.length_cons, List.length_nil, List.drop_succ_cons, List.cons_append, List.take_succ_cons, List.take_zero, List.drop_zero, List.nil_append, List.append_nil]
            refine ⟨Sub.any, ?_⟩
            refine RW.one 14 (by kernel_rfl) ?_
            refine RO.eS0 rfl rfl (Ef.store [_, _, _, _, _] (by kernel_rfl) rfl rfl rfl rfl (by simp) ?_)
            try simp only [splice, List.length_cons, List.length_nil, List.drop_succ_cons, List.cons_append, List.take_succ_cons, List.take_zero, List.drop_zero, List.nil_append, List.append_nil]
            refine ⟨Sub.any, ?_⟩
            refine RW.q 15 rfl rfl (by kernel_rfl) Sub.any (Qt.assign rfl) ?_
            refine RW.done (by rfl) ?_
            simp only [List.drop_succ_cons, List.drop_zero, List.drop_nil]
            refine LW.q rfl (Qt.assign rfl) ?_
            refine LW.done ?_
            refine T.seq ?_
            refine T.seq ?_
            refine T.region ?_
            refine LW.q rfl (Qt.move rfl) ?_
            refine LW.q rfl (Qt.len (e := 123) (sz := 2) (by kernel_rfl) rfl) ?_
            refine LW.q rfl (Qt.move rfl) ?_
            refine LW.q rfl (Qt.len (e := 9) (sz := 1) (by kernel_rfl) rfl) ?_
            refine LW.q rfl (Qt.gtr rfl rfl) ?_
            refine LW.done ?_
            refine T.condP rfl (fun hgt => ?_) (fun hgt => ?_)
            · skip
              refine T.seq ?_
              refine T.region ?_
              refine LW.q rfl (Qt.assign rfl) ?_
              refine LW.done ?_
              refine T.ret ?_
              exact ⟨.inl rfl, _, _, res [_] rfl ⟨rvT rfl, trivial⟩, ⟨false, kk, ss, R, rfl, x1, (fun h => by cases h), rfl⟩, Sub.any⟩
            · skip
              clear hlt
              refine T.own (fun w ho => ?_)
              have hq4 : 0 < R.length → ∃ g, q4 = some ⟨g, 0, none⟩ := (ho.slice_at (p := q4) (m := R.length) (c := cq4)).2.1
              clear ho
              refine T.skip ?_
              refine T.seq ?_
              refine T.seq ?_
              refine T.region ?_
              refine LW.q rfl (Qt.move rfl) ?_
              refine LW.q rfl (Qt.len (e := 123) (sz := 2) (by kernel_rfl) rfl) ?_
              refine LW.q rfl (Qt.move rfl) ?_
              refine LW.done ?_
              refine T.block ?_
              refine T.loop (fun mz fz lz => ∃ (f0 : Fr) (i : Nat), (i ≤ R.length ∧ ∀ j (hj : j < R.length), j < i → ds[j]? = some R[j].2) ∧ mz = R.length - i ∧ fz = (upd (upd (upd (upd f0 1 (.slice q n c)) 11 (.slice q4 R.length cq4)) 52 (.int .i64 R.length)) 53 (.int .i64 i)) ∧ lz = drecR q4 R.length cq4 R :: dskA b D :: rS (.slice q n c) n ds :: F) ?_ ?_
              · refine ⟨_, _, ⟨_, 0, ⟨Nat.zero_le _, fun j _ h => by omega⟩, rfl, (updS rfl (updS rfl (updS rfl (updS rfl rfl)))), rfl⟩, Sub.any⟩
              · skip
                rintro mz fz lz ⟨f0, i, ⟨hi, hpre⟩, hmz, rfl, rfl⟩
                subst mz
                try simp only [List.cons_append, List.nil_append]
                refine T.seq ?_
                refine T.region ?_
                refine LW.q rfl (Qt.lss rfl rfl) ?_
                refine LW.done ?_
                refine T.seq ?_
                refine T.condP rfl (fun hlt2 => ?_) (fun hlt2 => ?_)
                · skip
                  obtain ⟨g1, rfl⟩ := hq4 (by omega)
                  obtain ⟨g2, rfl⟩ := hq (by omega)
                  obtain ⟨x, hx⟩ : ∃ x, R[i]? = some x := ⟨_, List.getElem?_eq_getElem (by omega)⟩
                  obtain ⟨y, hy⟩ : ∃ y, ds[i]? = some y := ⟨_, List.getElem?_eq_getElem (by omega)⟩
                  refine T.skip ?_
                  refine T.seq ?_
                  refine T.block ?_
                  refine T.seq ?_
                  refine T.region ?_
                  refine LW.q rfl (Qt.move rfl) ?_
                  refine LW.q rfl (Qt.assign rfl) ?_
                  refine LW.done ?_
                  refine T.seq ?_
                  refine T.drawAll 10 (by kernel_rfl) (Nat.le_of_ble_eq_true rfl) (by kernel_rfl) ?_
                  refine RW.q 0 rfl rfl (by kernel_rfl) (Sub.refl _) (Qt.move rfl) ?_
                  refine RW.q 1 rfl rfl (by kernel_rfl) (Sub.refl _) (Qt.move rfl) ?_
                  refine RW.q 2 rfl rfl (by kernel_rfl) (Sub.refl _) (Qt.index _ (e := 123) (sz := 2) (by kernel_rfl) rfl rfl rfl (by omega)) ?_
                  refine RW.q 3 rfl rfl (by kernel_rfl) (Sub.refl _) (Qt.fieldAddr (off := 1) (by kernel_rfl) rfl) ?_
                  refine RW.q 4 rfl rfl (by kernel_rfl) (Sub.refl _) (Qt.load (v := strW x.2) (by kernel_rfl) rfl (by have := (drec_at hx).2; simpa using this)) ?_
                  refine RW.q 5 rfl rfl (by kernel_rfl) (Sub.refl _) (Qt.move rfl) ?_
                  refine RW.q 6 rfl rfl (by kernel_rfl) (Sub.refl _) (Qt.move rfl) ?_
                  refine RW.q 7 rfl rfl (by kernel_rfl) (Sub.refl _) (Qt.index _ (e := 9) (sz := 1) (by kernel_rfl) rfl rfl rfl (by omega)) ?_
                  refine RW.q 8 rfl rfl (by kernel_rfl) (Sub.refl _) (Qt.load (v := strW y) (by kernel_rfl) rfl (by simp [hy])) ?_
                  refine RW.q 9 rfl rfl (by kernel_rfl) (Sub.refl _) (Qt.neqS rfl rfl) ?_
                  refine RW.done (by rfl) ?_
                  simp only [List.drop_succ_cons, List.drop_zero, List.drop_nil]
                  refine LW.done ?_
                  refine T.condP rfl (fun hne => ?_) (fun hne => ?_)
                  · skip
                    refine T.seq ?_
                    refine T.region ?_
                    refine LW.q rfl (Qt.assign rfl) ?_
                    refine LW.done ?_
                    refine T.ret ?_
                    exact ⟨.inl rfl, _, _, res [_] rfl ⟨rvT rfl, trivial⟩, ⟨false, kk, ss, R, rfl, x1, (fun h => by cases h), rfl⟩, Sub.any⟩
                  · skip
                    refine T.skip ?_
                    refine T.region ?_
                    refine LW.q rfl (Qt.add rfl rfl (wr64 (by omega) (by omega))) ?_
                    refine LW.q rfl (Qt.move rfl) ?_
                    refine LW.done ?_
                    refine ⟨_, ?_, _, ⟨_, i + 1, ⟨by omega, fun j hj hji => by by_cases e : j = i; subst e; rw [hy, ← Decidable.not_not.1 hne]; have := List.getElem?_eq_getElem (l := R) (i := j) hj; rw [hx] at this; rw [Option.some.inj this]; exact hpre j hj (by omega)⟩, rfl, (updS rfl (updS rfl (updS rfl (updS rfl rfl)))), rfl⟩, Sub.any⟩
                    first | omega | (simp; omega)
                · skip
                  refine T.exit ?_
                  refine T.seq ?_
                  refine T.region ?_
                  refine LW.q rfl (Qt.assign rfl) ?_
                  refine LW.done ?_
                  refine T.ret ?_
                  exact ⟨.inl rfl, _, _, res [_] rfl ⟨rvT rfl, trivial⟩, ⟨true, kk, ss, R, rfl, x1, fun _ => ⟨by omega, fun j hj => hpre j hj (by omega)⟩, rfl⟩, Sub.any⟩
          · skip
            refine RO.eS rfl rfl (Ef.alloc [.string .empty, .int .u32 0, .int .i64 0, .int .i64 0, .int .i64 0] (by unfold zeroB; kernel_rfl) ?_)
            intro g10
            refine ⟨Sub.any, ?_⟩
            refine RW.one 11 (by kernel_rfl) ?_
            refine RO.eS rfl rfl (Ef.alloc [.slice none 0 0, .slice none 0 0] (by unfold zeroB; kernel_rfl) ?_)
            intro g9
            refine ⟨Sub.any, ?_⟩
            refine RW.one 13 (by kernel_rfl) ?_
            refine RO.eS0 rfl rfl (Ef.store [_, _] (by kernel_rfl) rfl rfl rfl rfl (by simp) ?_)
            try simp only [splice, List.length_cons, List.length_nil, List.drop_succ_cons, List.cons_append, List.take_succ_cons, List.take_zero, List.drop_zero, List.nil_append, List.append_nil]
            refine ⟨Sub.any, ?_⟩
            refine RW.one 14 (by kernel_rfl) ?_
            refine RO.eS0 rfl rfl (Ef.store [_, _, _, _, _] (by kernel_rfl) rfl rfl rfl rfl (by simp) ?_)
            try simp only [splice, List.length_cons, List.length_nil, List.drop_succ_cons, List.cons_append, List.take_succ_cons, List.take_zero, List.drop_zero, List.nil_append, List.append_nil]
            refine ⟨Sub.any, ?_⟩
            refine RW.q 15 rfl rfl (by kernel_rfl) Sub.any (Qt.assign rfl) ?_
            refine RW.done (by rfl) ?_
            simp only [List.drop_succ_cons, List.drop_zero, List.drop_nil]
            refine LW.q rfl (Qt.assign rfl) ?_
            refine LW.done ?_
            refine T.seq ?_
            refine T.seq ?_
            refine T.region ?_
            refine LW.q rfl (Qt.move rfl) ?_
            refine LW.q rfl (Qt.len (e := 123) (sz := 2) (by kernel_rfl) rfl) ?_
            refine LW.q rfl (Qt.move rfl) ?_
            refine LW.q rfl (Qt.len (e := 9) (sz := 1) (by kernel_rfl) rfl) ?_
            refine LW.q rfl (Qt.gtr rfl rfl) ?_
            refine LW.done ?_
            refine T.condP rfl (fun hgt => ?_) (fun hgt => ?_)
            · skip
              refine T.seq ?_
              refine T.region ?_
              refine LW.q rfl (Qt.assign rfl) ?_
              refine LW.done ?_
              refine T.ret ?_
              exact ⟨.inl rfl, _, _, res [_] rfl ⟨rvT rfl, trivial⟩, ⟨false, kk, ss, R, rfl, x1, (fun h => by cases h), rfl⟩, Sub.any⟩
            · skip
              clear hlt
              refine T.own (fun w ho => ?_)
              have hq4 : 0 < R.length → ∃ g, q4 = some ⟨g, 0, none⟩ := (ho.slice_at (p := q4) (m := R.length) (c := cq4)).2.1
              clear ho
              refine T.skip ?_
              refine T.seq ?_
              refine T.seq ?_
              refine T.region ?_
              refine LW.q rfl (Qt.move rfl) ?_
              refine LW.q rfl (Qt.len (e := 123) (sz := 2) (by kernel_rfl) rfl) ?_
              refine LW.q rfl (Qt.move rfl) ?_
              refine LW.done ?_
              refine T.block ?_
              refine T.loop (fun mz fz lz => ∃ (f0 : Fr) (i : Nat), (i ≤ R.length ∧ ∀ j (hj : j < R.length), j < i → ds[j]? = some R[j].2) ∧ mz = R.length - i ∧ fz = (upd (upd (upd (upd f0 1 (.slice q n c)) 11 (.slice q4 R.length cq4)) 52 (.int .i64 R.length)) 53 (.int .i64 i)) ∧ lz = drecR q4 R.length cq4 R :: dskA b D :: rS (.slice q n c) n ds :: F) ?_ ?_
              · refine ⟨_, _, ⟨_, 0, ⟨Nat.zero_le _, fun j _ h => by omega⟩, rfl, (updS rfl (updS rfl (updS rfl (updS rfl rfl)))), rfl⟩, Sub.any⟩
              · skip
                rintro mz fz lz ⟨f0, i, ⟨hi, hpre⟩, hmz, rfl, rfl⟩
                subst mz
                try simp only [List.cons_append, List.nil_append]
                refine T.seq ?_
                refine T.region ?_
                refine LW.q rfl (Qt.lss rfl rfl) ?_
                refine LW.done ?_
                refine T.seq ?_
                refine T.condP rfl (fun hlt2 => ?_) (fun hlt2 => ?_)
                · skip
                  obtain ⟨g1, rfl⟩ := hq4 (by omega)
                  obtain ⟨g2, rfl⟩ := hq (by omega)
                  obtain ⟨x, hx⟩ : ∃ x, R[i]? = some x := ⟨_, List.getElem?_eq_getElem (by omega)⟩
                  obtain ⟨y, hy⟩ : ∃ y, ds[i]? = some y := ⟨_, List.getElem?_eq_getElem (by omega)⟩
                  refine T.skip ?_
                  refine T.seq ?_
                  refine T.block ?_
                  refine T.seq ?_
                  refine T.region ?_
                  refine LW.q rfl (Qt.move rfl) ?_
                  refine LW.q rfl (Qt.assign rfl) ?_
                  refine LW.done ?_
                  refine T.seq ?_
                  refine T.drawAll 10 (by kernel_rfl) (Nat.le_of_ble_eq_true rfl) (by kernel_rfl) ?_
                  refine RW.q 0 rfl rfl (by kernel_rfl) (Sub.refl _) (Qt.move rfl) ?_
                  refine RW.q 1 rfl rfl (by kernel_rfl) (Sub.refl _) (Qt.move rfl) ?_
                  refine RW.q 2 rfl rfl (by kernel_rfl) (Sub.refl _) (Qt.index _ (e := 123) (sz := 2) (by kernel_rfl) rfl rfl rfl (by omega)) ?_
                  refine RW.q 3 rfl rfl (by kernel_rfl) (Sub.refl _) (Qt.fieldAddr (off := 1) (by kernel_rfl) rfl) ?_
                  refine RW.q 4 rfl rfl (by kernel_rfl) (Sub.refl _) (Qt.load (v := strW x.2) (by kernel_rfl) rfl (by have := (drec_at hx).2; simpa using this)) ?_
                  refine RW.q 5 rfl rfl (by kernel_rfl) (Sub.refl _) (Qt.move rfl) ?_
                  refine RW.q 6 rfl rfl (by kernel_rfl) (Sub.refl _) (Qt.move rfl) ?_
                  refine RW.q 7 rfl rfl (by kernel_rfl) (Sub.refl _) (Qt.index _ (e := 9) (sz := 1) (by kernel_rfl) rfl rfl rfl (by omega)) ?_
                  refine RW.q 8 rfl rfl (by kernel_rfl) (Sub.refl _) (Qt.load (v := strW y) (by kernel_rfl) rfl (by simp [hy])) ?_
                  refine RW.q 9 rfl rfl (by kernel_rfl) (Sub.refl _) (Qt.neqS rfl rfl) ?_
                  refine RW.done (by rfl) ?_
                  simp only [List.drop_succ_cons, List.drop_zero, List.drop_nil]
                  refine LW.done ?_
                  refine T.condP rfl (fun hne => ?_) (fun hne => ?_)
                  · skip
                    refine T.seq ?_
                    refine T.region ?_
                    refine LW.q rfl (Qt.assign rfl) ?_
                    refine LW.done ?_
                    refine T.ret ?_
                    exact ⟨.inl rfl, _, _, res [_] rfl ⟨rvT rfl, trivial⟩, ⟨false, kk, ss, R, rfl, x1, (fun h => by cases h), rfl⟩, Sub.any⟩
                  · skip
                    refine T.skip ?_
                    refine T.region ?_
                    refine LW.q rfl (Qt.add rfl rfl (wr64 (by omega) (by omega))) ?_
                    refine LW.q rfl (Qt.move rfl) ?_
                    refine LW.done ?_
                    refine ⟨_, ?_, _, ⟨_, i + 1, ⟨by omega, fun j hj hji => by by_cases e : j = i; subst e; rw [hy, ← Decidable.not_not.1 hne]; have := List.getElem?_eq_getElem (l := R) (i := j) hj; rw [hx] at this; rw [Option.some.inj this]; exact hpre j hj (by omega)⟩, rfl, (updS rfl (updS rfl (updS rfl (updS rfl rfl)))), rfl⟩, Sub.any⟩
                    first | omega | (simp; omega)
                · skip
                  refine T.exit ?_
                  refine T.seq ?_
                  refine T.region ?_
                  refine LW.q rfl (Qt.assign rfl) ?_
                  refine LW.done ?_
                  refine T.ret ?_
                  exact ⟨.inl rfl, _, _, res [_] rfl ⟨rvT rfl, trivial⟩, ⟨true, kk, ss, R, rfl, x1, fun _ => ⟨by omega, fun j hj => hpre j hj (by omega)⟩, rfl⟩, Sub.any⟩
        · skip
          refine RO.eS rfl rfl (Ef.alloc [.slice none 0 0, .slice none 0 0] (by unfold zeroB; kernel_rfl) ?_)
          intro g9
          refine ⟨Sub.any, ?_⟩
          refine RW.all [5, 12] (by kernel_rfl) (List.forall_mem_cons.2 ⟨?_, List.forall_mem_cons.2 ⟨?_, List.forall_mem_nil _⟩⟩)
          · skip
            refine RO.eS rfl rfl (Ef.call (Rl.open B ⟨Sc, []⟩ p none a 0 k 0 (by rw [hS]; simp) rfl (by rw [hS]; exact hD.map hN) (by omega) 0 k 0 k rfl rfl (by omega) (by omega)) Tryd.func29 rfl rfl rfl ?_)
            rintro _ _ ⟨p4, a4, kk, ss, R, q4, cq4, x1, rfl, rfl⟩
            try simp only [List.cons_append, List.nil_append]
            rw [hS, allD_map D k k (Nat.le_refl _)] at x1
            have hRl : R.length < 2 ^ 40 := by obtain ⟨es, _, k2, _, k4⟩ := scan_back (k * 256 + 1) 0 0 (allD D 0 k) (Nat.zero_le _); rw [x1] at k2; injection k2 with _ k2; injection k2 with _ k2; rw [k2, length_logR]; have h5 := length_logB_le 0 0 es; have h6 := allD_length hD (first := 0) k (by omega); omega
            refine ⟨Sub.any, ?_⟩
            refine RW.q 6 rfl rfl (by kernel_rfl) Sub.any (Qt.move rfl) ?_
            refine RW.q 7 rfl rfl (by kernel_rfl) Sub.any (Qt.extract rfl rfl) ?_
            refine RW.q 8 rfl rfl (by kernel_rfl) Sub.any (Qt.extract rfl rfl) ?_
            refine RW.q 9 rfl rfl (by kernel_rfl) Sub.any (Qt.extract rfl rfl) ?_
            refine RW.q 10 rfl rfl (by kernel_rfl) Sub.any (Qt.extract rfl rfl) ?_
            refine RW.one 12 (by kernel_rfl) ?_
            refine RO.eS rfl rfl (Ef.alloc [.string .empty, .int .u32 0, .int .i64 0, .int .i64 0, .int .i64 0] (by unfold zeroB; kernel_rfl) ?_)
            intro g10
            refine ⟨Sub.any, ?_⟩
            refine RW.one 13 (by kernel_rfl) ?_
            refine RO.eS0 rfl rfl (Ef.store [_, _] (by kernel_rfl) rfl rfl rfl rfl (by simp) ?_)
            try simp only [splice, List.length_cons, List.length_nil, List.drop_succ_cons, List.cons_append, List.take_succ_cons, List.take_zero, List.drop_zero, List.nil_append, List.append_nil]
            refine ⟨Sub.any, ?_⟩
            refine RW.one 14 (by kernel_rfl) ?_
            refine RO.eS0 rfl rfl (Ef.store [_, _, _, _, _] (by kernel_rfl) rfl rfl rfl rfl (by simp) ?_)
            try simp only [splice, List.length_cons, List.length_nil, List.drop_succ_cons, List.cons_append, List.take_succ_cons, List.take_zero, List.drop_zero, List.nil_append, List.append_nil]
            refine ⟨Sub.any, ?_⟩
            refine RW.q 15 rfl rfl (by kernel_rfl) Sub.any (Qt.assign rfl) ?_
            refine RW.done (by rfl) ?_
            simp only [List.drop_succ_cons, List.drop_zero, List.drop_nil]
            refine LW.q rfl (Qt.assign rfl) ?_
            refine LW.done ?_
            refine T.seq ?_
            refine T.seq ?_
            refine T.region ?_
            refine LW.q rfl (Qt.move rfl) ?_
            refine LW.q rfl (Qt.len (e := 123) (sz := 2) (by kernel_rfl) rfl) ?_
            refine LW.q rfl (Qt.move rfl) ?_
            refine LW.q rfl (Qt.len (e := 9) (sz := 1) (by kernel_rfl) rfl) ?_
            refine LW.q rfl (Qt.gtr rfl rfl) ?_
            refine LW.done ?_
            refine T.condP rfl (fun hgt => ?_) (fun hgt => ?_)
            · skip
              refine T.seq ?_
              refine T.region ?_
              refine LW.q rfl (Qt.assign rfl) ?_
              refine LW.done ?_
              refine T.ret ?_
              exact ⟨.inl rfl, _, _, res [_] rfl ⟨rvT rfl, trivial⟩, ⟨false, kk, ss, R, rfl, x1, (fun h => by cases h), rfl⟩, Sub.any⟩
            · skip
              clear hlt
              refine T.own (fun w ho => ?_)
              have hq4 : 0 < R.length → ∃ g, q4 = some ⟨g, 0, none⟩ := (ho.slice_at (p := q4) (m := R.length) (c := cq4)).2.1
              clear ho
              refine T.skip ?_
              refine T.seq ?_
              refine T.seq ?_
              refine T.region ?_
              refine LW.q rfl (Qt.move rfl) ?_
              refine LW.q rfl (Qt.len (e := 123) (sz := 2) (by kernel_rfl) rfl) ?_
              refine LW.q rfl (Qt.move rfl) ?_
              refine LW.done ?_
              refine T.block ?_
              refine T.loop (fun mz fz lz => ∃ (f0 : Fr) (i : Nat), (i ≤ R.length ∧ ∀ j (hj : j < R.length), j < i → ds[j]? = some R[j].2) ∧ mz = R.length - i ∧ fz = (upd (upd (upd (upd f0 1 (.slice q n c)) 11 (.slice q4 R.length cq4)) 52 (.int .i64 R.length)) 53 (.int .i64 i)) ∧ lz = drecR q4 R.length cq4 R :: dskA b D :: rS (.slice q n c) n ds :: F) ?_ ?_
              · refine ⟨_, _, ⟨_, 0, ⟨Nat.zero_le _, fun j _ h => by omega⟩, rfl, (updS rfl (updS rfl (updS rfl (updS rfl rfl)))), rfl⟩, Sub.any⟩
              · skip
                rintro mz fz lz ⟨f0, i, ⟨hi, hpre⟩, hmz, rfl, rfl⟩
                subst mz
                try simp only [List.cons_append, List.nil_append]
                refine T.seq ?_
                refine T.region ?_
                refine LW.q rfl (Qt.lss rfl rfl) ?_
                refine LW.done ?_
                refine T.seq ?_
                refine T.condP rfl (fun hlt2 => ?_) (fun hlt2 => ?_)
                · skip
                  obtain ⟨g1, rfl⟩ := hq4 (by omega)
                  obtain ⟨g2, rfl⟩ := hq (by omega)
                  obtain ⟨x, hx⟩ : ∃ x, R[i]? = some x := ⟨_, List.getElem?_eq_getElem (by omega)⟩
                  obtain ⟨y, hy⟩ : ∃ y, ds[i]? = some y := ⟨_, List.getElem?_eq_getElem (by omega)⟩
                  refine T.skip ?_
                  refine T.seq ?_
                  refine T.block ?_
                  refine T.seq ?_
                  refine T.region ?_
                  refine LW.q rfl (Qt.move rfl) ?_
                  refine LW.q rfl (Qt.assign rfl) ?_
                  refine LW.done ?_
                  refine T.seq ?_
                  refine T.drawAll 10 (by kernel_rfl) (Nat.le_of_ble_eq_true rfl) (by kernel_rfl) ?_
                  refine RW.q 0 rfl rfl (by kernel_rfl) (Sub.refl _) (Qt.move rfl) ?_
                  refine RW.q 1 rfl rfl (by kernel_rfl) (Sub.refl _) (Qt.move rfl) ?_
                  refine RW.q 2 rfl rfl (by kernel_rfl) (Sub.refl _) (Qt.index _ (e := 123) (sz := 2) (by kernel_rfl) rfl rfl rfl (by omega)) ?_
                  refine RW.q 3 rfl rfl (by kernel_rfl) (Sub.refl _) (Qt.fieldAddr (off := 1) (by kernel_rfl) rfl) ?_
                  refine RW.q 4 rfl rfl (by kernel_rfl) (Sub.refl _) (Qt.load (v := strW x.2) (by kernel_rfl) rfl (by have := (drec_at hx).2; simpa using this)) ?_
                  refine RW.q 5 rfl rfl (by kernel_rfl) (Sub.refl _) (Qt.move rfl) ?_
                  refine RW.q 6 rfl rfl (by kernel_rfl) (Sub.refl _) (Qt.move rfl) ?_
                  refine RW.q 7 rfl rfl (by kernel_rfl) (Sub.refl _) (Qt.index _ (e := 9) (sz := 1) (by kernel_rfl) rfl rfl rfl (by omega)) ?_
                  refine RW.q 8 rfl rfl (by kernel_rfl) (Sub.refl _) (Qt.load (v := strW y) (by kernel_rfl) rfl (by simp [hy])) ?_
                  refine RW.q 9 rfl rfl (by kernel_rfl) (Sub.refl _) (Qt.neqS rfl rfl) ?_
                  refine RW.done (by rfl) ?_
                  simp only [List.drop_succ_cons, List.drop_zero, List.drop_nil]
                  refine LW.done ?_
                  refine T.condP rfl (fun hne => ?_) (fun hne => ?_)
                  · skip
                    refine T.seq ?_
                    refine T.region ?_
                    refine LW.q rfl (Qt.assign rfl) ?_
                    refine LW.done ?_
                    refine T.ret ?_
                    exact ⟨.inl rfl, _, _, res [_] rfl ⟨rvT rfl, trivial⟩, ⟨false, kk, ss, R, rfl, x1, (fun h => by cases h), rfl⟩, Sub.any⟩
                  · skip
                    refine T.skip ?_
                    refine T.region ?_
                    refine LW.q rfl (Qt.add rfl rfl (wr64 (by omega) (by omega))) ?_
                    refine LW.q rfl (Qt.move rfl) ?_
                    refine LW.done ?_
                    refine ⟨_, ?_, _, ⟨_, i + 1, ⟨by omega, fun j hj hji => by by_cases e : j = i; subst e; rw [hy, ← Decidable.not_not.1 hne]; have := List.getElem?_eq_getElem (l := R) (i := j) hj; rw [hx] at this; rw [Option.some.inj this]; exact hpre j hj (by omega)⟩, rfl, (updS rfl (updS rfl (updS rfl (updS rfl rfl)))), rfl⟩, Sub.any⟩
                    first | omega | (simp; omega)
                · skip
                  refine T.exit ?_
                  refine T.seq ?_
                  refine T.region ?_
                  refine LW.q rfl (Qt.assign rfl) ?_
                  refine LW.done ?_
                  refine T.ret ?_
                  exact ⟨.inl rfl, _, _, res [_] rfl ⟨rvT rfl, trivial⟩, ⟨true, kk, ss, R, rfl, x1, fun _ => ⟨by omega, fun j hj => hpre j hj (by omega)⟩, rfl⟩, Sub.any⟩
          · skip
            refine RO.eS rfl rfl (Ef.alloc [.string .empty, .int .u32 0, .int .i64 0, .int .i64 0, .int .i64 0] (by unfold zeroB; kernel_rfl) ?_)
            intro g10
            refine ⟨Sub.any, ?_⟩
            refine RW.one 5 (by kernel_rfl) ?_
            refine RO.eS rfl rfl (Ef.call (Rl.open B ⟨Sc, []⟩ p none a 0 k 0 (by rw [hS]; simp) rfl (by rw [hS]; exact hD.map hN) (by omega) 0 k 0 k rfl rfl (by omega) (by omega)) Tryd.func29 rfl rfl rfl ?_)
            rintro _ _ ⟨p4, a4, kk, ss, R, q4, cq4, x1, rfl, rfl⟩
            try simp only [List.cons_append, List.nil_append]
            rw [hS, allD_map D k k (Nat.le_refl _)] at x1
            have hRl : R.length < 2 ^ 40 := by obtain ⟨es, _, k2, _, k4⟩ := scan_back (k * 256 + 1) 0 0 (allD D 0 k) (Nat.zero_le _); rw [x1] at k2; injection k2 with _ k2; injection k2 with _ k2; rw [k2, length_logR]; have h5 := length_logB_le 0 0 es; have h6 := allD_length hD (first := 0) k (by omega); omega
            refine ⟨Sub.any, ?_⟩
            refine RW.q 6 rfl rfl (by kernel_rfl) Sub.any (Qt.move rfl) ?_
            refine RW.q 7 rfl rfl (by kernel_rfl) Sub.any (Qt.extract rfl rfl) ?_
            refine RW.q 8 rfl rfl (by kernel_rfl) Sub.any (Qt.extract rfl rfl) ?_
            refine RW.q 9 rfl rfl (by kernel_rfl) Sub.any (Qt.extract rfl rfl) ?_
            refine RW.q 10 rfl rfl (by kernel_rfl) Sub.any (Qt.extract rfl rfl) ?_
            refine RW.one 13 (by kernel_rfl) ?_
            refine RO.eS0 rfl rfl (Ef.store [_, _] (by kernel_rfl) rfl rfl rfl rfl (by simp) ?_)
            try simp only [splice, List.length_cons, List.length_nil, List.drop_succ_cons, List.cons_append, List.take_succ_cons, List.take_zero, List.drop_zero, List.nil_append, List.append_nil]
            refine ⟨Sub.any, ?_⟩
            refine RW.one 14 (by kernel_rfl) ?_
            refine RO.eS0 rfl rfl (Ef.store [_, _, _, _, _] (by kernel_rfl) rfl rfl rfl rfl (by simp) ?_)
            try simp only [splice, List.length_cons, List.length_nil, List.drop_succ_cons, List.cons_append, List.take_succ_cons, List.take_zero, List.drop_zero, List.nil_append, List.append_nil]
            refine ⟨Sub.any, ?_⟩
            refine RW.q 15 rfl rfl (by kernel_rfl) Sub.any (Qt.assign rfl) ?_
            refine RW.done (by rfl) ?_
            simp only [List.drop_succ_cons, List.drop_zero, List.drop_nil]
            refine LW.q rfl (Qt.assign rfl) ?_
            refine LW.done ?_
            refine T.seq ?_
            refine T.seq ?_
            refine T.region ?_
            refine LW.q rfl (Qt.move rfl) ?_
            refine LW.q rfl (Qt.len (e := 123) (sz := 2) (by kernel_rfl) rfl) ?_
            refine LW.q rfl (Qt.move rfl) ?_
            refine LW.q rfl (Qt.len (e := 9) (sz := 1) (by kernel_rfl) rfl) ?_
            refine LW.q rfl (Qt.gtr rfl rfl) ?_
            refine LW.done ?_
            refine T.condP rfl (fun hgt => ?_) (fun hgt => ?_)
            · skip
              refine T.seq ?_
              refine T.region ?_
              refine LW.q rfl (Qt.assign rfl) ?_
              refine LW.done ?_
              refine T.ret ?_
              exact ⟨.inl rfl, _, _, res [_] rfl ⟨rvT rfl, trivial⟩, ⟨false, kk, ss, R, rfl, x1, (fun h => by cases h), rfl⟩, Sub.any⟩
            · skip
              clear hlt
              refine T.own (fun w ho => ?_)
              have hq4 : 0 < R.length → ∃ g, q4 = some ⟨g, 0, none⟩ := (ho.slice_at (p := q4) (m := R.length) (c := cq4)).2.1
              clear ho
              refine T.skip ?_
              refine T.seq ?_
              refine T.seq ?_
              refine T.region ?_
              refine LW.q rfl (Qt.move rfl) ?_
              refine LW.q rfl (Qt.len (e := 123) (sz := 2) (by kernel_rfl) rfl) ?_
              refine LW.q rfl (Qt.move rfl) ?_
              refine LW.done ?_
              refine T.block ?_
              refine T.loop (fun mz fz lz => ∃ (f0 : Fr) (i : Nat), (i ≤ R.length ∧ ∀ j (hj : j < R.length), j < i → ds[j]? = some R[j].2) ∧ mz = R.length - i ∧ fz = (upd (upd (upd (upd f0 1 (.slice q n c)) 11 (.slice q4 R.length cq4)) 52 (.int .i64 R.length)) 53 (.int .i64 i)) ∧ lz = drecR q4 R.length cq4 R :: dskA b D :: rS (.slice q n c) n ds :: F) ?_ ?_
              · refine ⟨_, _, ⟨_, 0, ⟨Nat.zero_le _, fun j _ h => by omega⟩, rfl, (updS rfl (updS rfl (updS rfl (updS rfl rfl)))), rfl⟩, Sub.any⟩
              · skip
                rintro mz fz lz ⟨f0, i, ⟨hi, hpre⟩, hmz, rfl, rfl⟩
                subst mz
                try simp only [List.cons_append, List.nil_append]
                refine T.seq ?_
                refine T.region ?_
                refine LW.q rfl (Qt.lss rfl rfl) ?_
                refine LW.done ?_
                refine T.seq ?_
                refine T.condP rfl (fun hlt2 => ?_) (fun hlt2 => ?_)
                · skip
                  obtain ⟨g1, rfl⟩ := hq4 (by omega)
                  obtain ⟨g2, rfl⟩ := hq (by omega)
                  obtain ⟨x, hx⟩ : ∃ x, R[i]? = some x := ⟨_, List.getElem?_eq_getElem (by omega)⟩
                  obtain ⟨y, hy⟩ : ∃ y, ds[i]? = some y := ⟨_, List.getElem?_eq_getElem (by omega)⟩
                  refine T.skip ?_
                  refine T.seq ?_
                  refine T.block ?_
                  refine T.seq ?_
                  refine T.region ?_
                  refine LW.q rfl (Qt.move rfl) ?_
                  refine LW.q rfl (Qt.assign rfl) ?_
                  refine LW.done ?_
                  refine T.seq ?_
                  refine T.drawAll 10 (by kernel_rfl) (Nat.le_of_ble_eq_true rfl) (by kernel_rfl) ?_
                  refine RW.q 0 rfl rfl (by kernel_rfl) (Sub.refl _) (Qt.move rfl) ?_
                  refine RW.q 1 rfl rfl (by kernel_rfl) (Sub.refl _) (Qt.move rfl) ?_
                  refine RW.q 2 rfl rfl (by kernel_rfl) (Sub.refl _) (Qt.index _ (e := 123) (sz := 2) (by kernel_rfl) rfl rfl rfl (by omega)) ?_
                  refine RW.q 3 rfl rfl (by kernel_rfl) (Sub.refl _) (Qt.fieldAddr (off := 1) (by kernel_rfl) rfl) ?_
                  refine RW.q 4 rfl rfl (by kernel_rfl) (Sub.refl _) (Qt.load (v := strW x.2) (by kernel_rfl) rfl (by have := (drec_at hx).2; simpa using this)) ?_
                  refine RW.q 5 rfl rfl (by kernel_rfl) (Sub.refl _) (Qt.move rfl) ?_
                  refine RW.q 6 rfl rfl (by kernel_rfl) (Sub.refl _) (Qt.move rfl) ?_
                  refine RW.q 7 rfl rfl (by kernel_rfl) (Sub.refl _) (Qt.index _ (e := 9) (sz := 1) (by kernel_rfl) rfl rfl rfl (by omega)) ?_
                  refine RW.q 8 rfl rfl (by kernel_rfl) (Sub.refl _) (Qt.load (v := strW y) (by kernel_rfl) rfl (by simp [hy])) ?_
                  refine RW.q 9 rfl rfl (by kernel_rfl) (Sub.refl _) (Qt.neqS rfl rfl) ?_
                  refine RW.done (by rfl) ?_
                  simp only [List.drop_succ_cons, List.drop_zero, List.drop_nil]
                  refine LW.done ?_
                  refine T.condP rfl (fun hne => ?_) (fun hne => ?_)
                  · skip
                    refine T.seq ?_
                    refine T.region ?_
                    refine LW.q rfl (Qt.assign rfl) ?_
                    refine LW.done ?_
                    refine T.ret ?_
                    exact ⟨.inl rfl, _, _, res [_] rfl ⟨rvT rfl, trivial⟩, ⟨false, kk, ss, R, rfl, x1, (fun h => by cases h), rfl⟩, Sub.any⟩
                  · skip
                    refine T.skip ?_
                    refine T.region ?_
                    refine LW.q rfl (Qt.add rfl rfl (wr64 (by omega) (by omega))) ?_
                    refine LW.q rfl (Qt.move rfl) ?_
                    refine LW.done ?_
                    refine ⟨_, ?_, _, ⟨_, i + 1, ⟨by omega, fun j hj hji => by by_cases e : j = i; subst e; rw [hy, ← Decidable.not_not.1 hne]; have := List.getElem?_eq_getElem (l := R) (i := j) hj; rw [hx] at this; rw [Option.some.inj this]; exact hpre j hj (by omega)⟩, rfl, (updS rfl (updS rfl (updS rfl (updS rfl rfl)))), rfl⟩, Sub.any⟩
                    first | omega | (simp; omega)
                · skip
                  refine T.exit ?_
                  refine T.seq ?_
                  refine T.region ?_
                  refine LW.q rfl (Qt.assign rfl) ?_
                  refine LW.done ?_
                  refine T.ret ?_
                  exact ⟨.inl rfl, _, _, res [_] rfl ⟨rvT rfl, trivial⟩, ⟨true, kk, ss, R, rfl, x1, fun _ => ⟨by omega, fun j hj => hpre j hj (by omega)⟩, rfl⟩, Sub.any⟩
        · skip
          refine RO.eS rfl rfl (Ef.alloc [.string .empty, .int .u32 0, .int .i64 0, .int .i64 0, .int .i64 0] (by unfold zeroB; kernel_rfl) ?_)
          intro g10
          refine ⟨Sub.any, ?_⟩
          refine RW.all [5, 11] (by kernel_rfl) (List.forall_mem_cons.2 ⟨?_, List.forall_mem_cons.2 ⟨?_, List.forall_mem_nil _⟩⟩)
          · skip
            refine RO.eS rfl rfl (Ef.call (Rl.open B ⟨Sc, []⟩ p none a 0 k 0 (by rw [hS]; simp) rfl (by rw [hS]; exact hD.map hN) (by omega) 0 k 0 k rfl rfl (by omega) (by omega)) Tryd.func29 rfl rfl rfl ?_)
            rintro _ _ ⟨p4, a4, kk, ss, R, q4, cq4, x1, rfl, rfl⟩
            try simp only [List.cons_append, List.nil_append]
            rw [hS, allD_map D k k (Nat.le_refl _)] at x1
            have hRl : R.length < 2 ^ 40 := by obtain ⟨es, _, k2, _, k4⟩ := scan_back (k * 256 + 1) 0 0 (allD D 0 k) (Nat.zero_le _); rw [x1] at k2; injection k2 with _ k2; injection k2 with _ k2; rw [k2, length_logR]; have h5 := length_logB_le 0 0 es; have h6 := allD_length hD (first := 0) k (by omega); omega
            refine ⟨Sub.any, ?_⟩
            refine RW.q 6 rfl rfl (by kernel_rfl) Sub.any (Qt.move rfl) ?_
            refine RW.q 7 rfl rfl (by kernel_rfl) Sub.any (Qt.extract rfl rfl) ?_
            refine RW.q 8 rfl rfl (by kernel_rfl) Sub.any (Qt.extract rfl rfl) ?_
            refine RW.q 9 rfl rfl (by kernel_rfl) Sub.any (Qt.extract rfl rfl) ?_
            refine RW.q 10 rfl rfl (by kernel_rfl) Sub.any (Qt.extract rfl rfl) ?_
            refine RW.one 11 (by kernel_rfl) ?_
            refine RO.eS rfl rfl (Ef.alloc [.slice none 0 0, .slice none 0 0] (by unfold zeroB; kernel_rfl) ?_)
            intro g9
            refine ⟨Sub.any, ?_⟩
            refine RW.one 13 (by kernel_rfl) ?_
            refine RO.eS0 rfl rfl (Ef.store [_, _] (by kernel_rfl) rfl rfl rfl rfl (by simp) ?_)
            try simp only [splice, List.length_cons, List.length_nil, List.drop_succ_cons, List.cons_append, List.take_succ_cons, List.take_zero, List.drop_zero, List.nil_append, List.append_nil]
            refine ⟨Sub.any, ?_⟩
            refine RW.one 14 (by kernel_rfl) ?_
            refine RO.eS0 rfl rfl (Ef.store [_, _, _, _, _] (by kernel_rfl) rfl rfl rfl rfl (by simp) ?_)
            try simp only [splice, List.length_cons, List.length_nil, List.drop_succ_cons, List.cons_append, List.take_succ_cons, List.take_zero, List.drop_zero, List.nil_append, List.append_nil]
            refine ⟨Sub.any, ?_⟩
            refine RW.q 15 rfl rfl (by kernel_rfl) Sub.any (Qt.assign rfl) ?_
            refine RW.done (by rfl) ?_
            simp only [List.drop_succ_cons, List.drop_zero, List.drop_nil]
            refine LW.q rfl (Qt.assign rfl) ?_
            refine LW.done ?_
            refine T.seq ?_
            refine T.seq ?_
            refine T.region ?_
            refine LW.q rfl (Qt.move rfl) ?_
            refine LW.q rfl (Qt.len (e := 123) (sz := 2) (by kernel_rfl) rfl) ?_
            refine LW.q rfl (Qt.move rfl) ?_
            refine LW.q rfl (Qt.len (e := 9) (sz := 1) (by kernel_rfl) rfl) ?_
            refine LW.q rfl (Qt.gtr rfl rfl) ?_
            refine LW.done ?_
            refine T.condP rfl (fun hgt => ?_) (fun hgt => ?_)
            · skip
              refine T.seq ?_
              refine T.region ?_
              refine LW.q rfl (Qt.assign rfl) ?_
              refine LW.done ?_
              refine T.ret ?_
              exact ⟨.inl rfl, _, _, res [_] rfl ⟨rvT rfl, trivial⟩, ⟨false, kk, ss, R, rfl, x1, (fun h => by cases h), rfl⟩, Sub.any⟩
            · skip
              clear hlt
              refine T.own (fun w ho => ?_)
              have hq4 : 0 < R.length → ∃ g, q4 = some ⟨g, 0, none⟩ := (ho.slice_at (p := q4) (m := R.length) (c := cq4)).2.1
              clear ho
              refine T.skip ?_
              refine T.seq ?_
              refine T.seq ?_
              refine T.region ?_
              refine LW.q rfl (Qt.move rfl) ?_
              refine LW.q rfl (Qt.len (e := 123) (sz := 2) (by kernel_rfl) rfl) ?_
              refine LW.q rfl (Qt.move rfl) ?_
              refine LW.done ?_
              refine T.block ?_
              refine T.loop (fun mz fz lz => ∃ (f0 : Fr) (i : Nat), (i ≤ R.length ∧ ∀ j (hj : j < R.length), j < i → ds[j]? = some R[j].2) ∧ mz = R.length - i ∧ fz = (upd (upd (upd (upd f0 1 (.slice q n c)) 11 (.slice q4 R.length cq4)) 52 (.int .i64 R.length)) 53 (.int .i64 i)) ∧ lz = drecR q4 R.length cq4 R :: dskA b D :: rS (.slice q n c) n ds :: F) ?_ ?_
              · refine ⟨_, _, ⟨_, 0, ⟨Nat.zero_le _, fun j _ h => by omega⟩, rfl, (updS rfl (updS rfl (updS rfl (updS rfl rfl)))), rfl⟩, Sub.any⟩
              · skip
                rintro mz fz lz ⟨f0, i, ⟨hi, hpre⟩, hmz, rfl, rfl⟩
                subst mz
                try simp only [List.cons_append, List.nil_append]
                refine T.seq ?_
                refine T.region ?_
                refine LW.q rfl (Qt.lss rfl rfl) ?_
                refine LW.done ?_
                refine T.seq ?_
                refine T.condP rfl (fun hlt2 => ?_) (fun hlt2 => ?_)
                · skip
                  obtain ⟨g1, rfl⟩ := hq4 (by omega)
                  obtain ⟨g2, rfl⟩ := hq (by omega)
                  obtain ⟨x, hx⟩ : ∃ x, R[i]? = some x := ⟨_, List.getElem?_eq_getElem (by omega)⟩
                  obtain ⟨y, hy⟩ : ∃ y, ds[i]? = some y := ⟨_, List.getElem?_eq_getElem (by omega)⟩
                  refine T.skip ?_
                  refine T.seq ?_
                  refine T.block ?_
                  refine T.seq ?_
                  refine T.region ?_
                  refine LW.q rfl (Qt.move rfl) ?_
                  refine LW.q rfl (Qt.assign rfl) ?_
                  refine LW.done ?_
                  refine T.seq ?_
                  refine T.drawAll 10 (by kernel_rfl) (Nat.le_of_ble_eq_true rfl) (by kernel_rfl) ?_
                  refine RW.q 0 rfl rfl (by kernel_rfl) (Sub.refl _) (Qt.move rfl) ?_
                  refine RW.q 1 rfl rfl (by kernel_rfl) (Sub.refl _) (Qt.move rfl) ?_
                  refine RW.q 2 rfl rfl (by kernel_rfl) (Sub.refl _) (Qt.index _ (e := 123) (sz := 2) (by kernel_rfl) rfl rfl rfl (by omega)) ?_
                  refine RW.q 3 rfl rfl (by kernel_rfl) (Sub.refl _) (Qt.fieldAddr (off := 1) (by kernel_rfl) rfl) ?_
                  refine RW.q 4 rfl rfl (by kernel_rfl) (Sub.refl _) (Qt.load (v := strW x.2) (by kernel_rfl) rfl (by have := (drec_at hx).2; simpa using this)) ?_
                  refine RW.q 5 rfl rfl (by kernel_rfl) (Sub.refl _) (Qt.move rfl) ?_
                  refine RW.q 6 rfl rfl (by kernel_rfl) (Sub.refl _) (Qt.move rfl) ?_
                  refine RW.q 7 rfl rfl (by kernel_rfl) (Sub.refl _) (Qt.index _ (e := 9) (sz := 1) (by kernel_rfl) rfl rfl rfl (by omega)) ?_
                  refine RW.q 8 rfl rfl (by kernel_rfl) (Sub.refl _) (Qt.load (v := strW y) (by kernel_rfl) rfl (by simp [hy])) ?_
                  refine RW.q 9 rfl rfl (by kernel_rfl) (Sub.refl _) (Qt.neqS rfl rfl) ?_
                  refine RW.done (by rfl) ?_
                  simp only [List.drop_succ_cons, List.drop_zero, List.drop_nil]
                  refine LW.done ?_
                  refine T.condP rfl (fun hne => ?_) (fun hne => ?_)
                  · skip
                    refine T.seq ?_
                    refine T.region ?_
                    refine LW.q rfl (Qt.assign rfl) ?_
                    refine LW.done ?_
                    refine T.ret ?_
                    exact ⟨.inl rfl, _, _, res [_] rfl ⟨rvT rfl, trivial⟩, ⟨false, kk, ss, R, rfl, x1, (fun h => by cases h), rfl⟩, Sub.any⟩
                  · skip
                    refine T.skip ?_
                    refine T.region ?_
                    refine LW.q rfl (Qt.add rfl rfl (wr64 (by omega) (by omega))) ?_
                    refine LW.q rfl (Qt.move rfl) ?_
                    refine LW.done ?_
                    refine ⟨_, ?_, _, ⟨_, i + 1, ⟨by omega, fun j hj hji => by by_cases e : j = i; subst e; rw [hy, ← Decidable.not_not.1 hne]; have := List.getElem?_eq_getElem (l := R) (i := j) hj; rw [hx] at this; rw [Option.some.inj this]; exact hpre j hj (by omega)⟩, rfl, (updS rfl (updS rfl (updS rfl (updS rfl rfl)))), rfl⟩, Sub.any⟩
                    first | omega | (simp; omega)
                · skip
                  refine T.exit ?_
                  refine T.seq ?_
                  refine T.region ?_
                  refine LW.q rfl (Qt.assign rfl) ?_
                  refine LW.done ?_
                  refine T.ret ?_
                  exact ⟨.inl rfl, _, _, res [_] rfl ⟨rvT rfl, trivial⟩, ⟨true, kk, ss, R, rfl, x1, fun _ => ⟨by omega, fun j hj => hpre j hj (by omega)⟩, rfl⟩, Sub.any⟩
          · skip
            refine RO.eS rfl rfl (Ef.alloc [.slice none 0 0, .slice none 0 0] (by unfold zeroB; kernel_rfl) ?_)
            intro g9
            refine ⟨Sub.any, ?_⟩
            refine RW.one 5 (by kernel_rfl) ?_
            refine RO.eS rfl rfl (Ef.call (Rl.open B ⟨Sc, []⟩ p none a 0 k 0 (by rw [hS]; simp) rfl (by rw [hS]; exact hD.map hN) (by omega) 0 k 0 k rfl rfl (by omega) (by omega)) Tryd.func29 rfl rfl rfl ?_)
            rintro _ _ ⟨p4, a4, kk, ss, R, q4, cq4, x1, rfl, rfl⟩
            try simp only [List.cons_append, List.nil_append]
            rw [hS, allD_map D k k (Nat.le_refl _)] at x1
            have hRl : R.length < 2 ^ 40 := by obtain ⟨es, _, k2, _, k4⟩ := scan_back (k * 256 + 1) 0 0 (allD D 0 k) (Nat.zero_le _); rw [x1] at k2; injection k2 with _ k2; injection k2 with _ k2; rw [k2, length_logR]; have h5 := length_logB_le 0 0 es; have h6 := allD_length hD (first := 0) k (by omega); omega
            refine ⟨Sub.any, ?_⟩
            refine RW.q 6 rfl rfl (by kernel_rfl) Sub.any (Qt.move rfl) ?_
            refine RW.q 7 rfl rfl (by kernel_rfl) Sub.any (Qt.extract rfl rfl) ?_
            refine RW.q 8 rfl rfl (by kernel_rfl) Sub.any (Qt.extract rfl rfl) ?_
            refine RW.q 9 rfl rfl (by kernel_rfl) Sub.any (Qt.extract rfl rfl) ?_
            refine RW.q 10 rfl rfl (by kernel_rfl) Sub.any (Qt.extract rfl rfl) ?_
            refine RW.one 13 (by kernel_rfl) ?_
            refine RO.eS0 rfl rfl (Ef.store [_, _] (by kernel_rfl) rfl rfl rfl rfl (by simp) ?_)
            try simp only [splice, List.length_cons, List.length_nil, List.drop_succ_cons, List.cons_append, List.take_succ_cons, List.take_zero, List.drop_zero, List.nil_append, List.append_nil]
            refine ⟨Sub.any, ?_⟩
            refine RW.one 14 (by kernel_rfl) ?_
            refine RO.eS0 rfl rfl (Ef.store [_, _, _, _, _] (by kernel_rfl) rfl rfl rfl rfl (by simp) ?_)
            try simp only [splice, List.length_cons, List.length_nil, List.drop_succ_cons, List.cons_append, List.take_succ_cons, List.take_zero, List.drop_zero, List.nil_append, List.append_nil]
            refine ⟨Sub.any, ?_⟩
            refine RW.q 15 rfl rfl (by kernel_rfl) Sub.any (Qt.assign rfl) ?_
            refine RW.done (by rfl) ?_
            simp only [List.drop_succ_cons, List.drop_zero, List.drop_nil]
            refine LW.q rfl (Qt.assign rfl) ?_
            refine LW.done ?_
            refine T.seq ?_
            refine T.seq ?_
            refine T.region ?_
            refine LW.q rfl (Qt.move rfl) ?_
            refine LW.q rfl (Qt.len (e := 123) (sz := 2) (by kernel_rfl) rfl) ?_
            refine LW.q rfl (Qt.move rfl) ?_
            refine LW.q rfl (Qt.len (e := 9) (sz := 1) (by kernel_rfl) rfl) ?_
            refine LW.q rfl (Qt.gtr rfl rfl) ?_
            refine LW.done ?_
            refine T.condP rfl (fun hgt => ?_) (fun hgt => ?_)
            · skip
              refine T.seq ?_
              refine T.region ?_
              refine LW.q rfl (Qt.assign rfl) ?_
              refine LW.done ?_
              refine T.ret ?_
              exact ⟨.inl rfl, _, _, res [_] rfl ⟨rvT rfl, trivial⟩, ⟨false, kk, ss, R, rfl, x1, (fun h => by cases h), rfl⟩, Sub.any⟩
            · skip
              clear hlt
              refine T.own (fun w ho => ?_)
              have hq4 : 0 < R.length → ∃ g, q4 = some ⟨g, 0, none⟩ := (ho.slice_at (p := q4) (m := R.length) (c := cq4)).2.1
              clear ho
              refine T.skip ?_
              refine T.seq ?_
              refine T.seq ?_
              refine T.region ?_
              refine LW.q rfl (Qt.move rfl) ?_
              refine LW.q rfl (Qt.len (e := 123) (sz := 2) (by kernel_rfl) rfl) ?_
              refine LW.q rfl (Qt.move rfl) ?_
              refine LW.done ?_
              refine T.block ?_
              refine T.loop (fun mz fz lz => ∃ (f0 : Fr) (i : Nat), (i ≤ R.length ∧ ∀ j (hj : j < R.length), j < i → ds[j]? = some R[j].2) ∧ mz = R.length - i ∧ fz = (upd (upd (upd (upd f0 1 (.slice q n c)) 11 (.slice q4 R.length cq4)) 52 (.int .i64 R.length)) 53 (.int .i64 i)) ∧ lz = drecR q4 R.length cq4 R :: dskA b D :: rS (.slice q n c) n ds :: F) ?_ ?_
              · refine ⟨_, _, ⟨_, 0, ⟨Nat.zero_le _, fun j _ h => by omega⟩, rfl, (updS rfl (updS rfl (updS rfl (updS rfl rfl)))), rfl⟩, Sub.any⟩
              · skip
                rintro mz fz lz ⟨f0, i, ⟨hi, hpre⟩, hmz, rfl, rfl⟩
                subst mz
                try simp only [List.cons_append, List.nil_append]
                refine T.seq ?_
                refine T.region ?_
                refine LW.q rfl (Qt.lss rfl rfl) ?_
                refine LW.done ?_
                refine T.seq ?_
                refine T.condP rfl (fun hlt2 => ?_) (fun hlt2 => ?_)
                · skip
                  obtain ⟨g1, rfl⟩ := hq4 (by omega)
                  obtain ⟨g2, rfl⟩ := hq (by omega)
                  obtain ⟨x, hx⟩ : ∃ x, R[i]? = some x := ⟨_, List.getElem?_eq_getElem (by omega)⟩
                  obtain ⟨y, hy⟩ : ∃ y, ds[i]? = some y := ⟨_, List.getElem?_eq_getElem (by omega)⟩
                  refine T.skip ?_
                  refine T.seq ?_
                  refine T.block ?_
                  refine T.seq ?_
                  refine T.region ?_
                  refine LW.q rfl (Qt.move rfl) ?_
                  refine LW.q rfl (Qt.assign rfl) ?_
                  refine LW.done ?_
                  refine T.seq ?_
                  refine T.drawAll 10 (by kernel_rfl) (Nat.le_of_ble_eq_true rfl) (by kernel_rfl) ?_
                  refine RW.q 0 rfl rfl (by kernel_rfl) (Sub.refl _) (Qt.move rfl) ?_
                  refine RW.q 1 rfl rfl (by kernel_rfl) (Sub.refl _) (Qt.move rfl) ?_
                  refine RW.q 2 rfl rfl (by kernel_rfl) (Sub.refl _) (Qt.index _ (e := 123) (sz := 2) (by kernel_rfl) rfl rfl rfl (by omega)) ?_
                  refine RW.q 3 rfl rfl (by kernel_rfl) (Sub.refl _) (Qt.fieldAddr (off := 1) (by kernel_rfl) rfl) ?_
                  refine RW.q 4 rfl rfl (by kernel_rfl) (Sub.refl _) (Qt.load (v := strW x.2) (by kernel_rfl) rfl (by have := (drec_at hx).2; simpa using this)) ?_
                  refine RW.q 5 rfl rfl (by kernel_rfl) (Sub.refl _) (Qt.move rfl) ?_
                  refine RW.q 6 rfl rfl (by kernel_rfl) (Sub.refl _) (Qt.move rfl) ?_
                  refine RW.q 7 rfl rfl (by kernel_rfl) (Sub.refl _) (Qt.index _ (e := 9) (sz := 1) (by kernel_rfl) rfl rfl rfl (by omega)) ?_
                  refine RW.q 8 rfl rfl (by kernel_rfl) (Sub.refl _) (Qt.load (v := strW y) (by kernel_rfl) rfl (by simp [hy])) ?_
                  refine RW.q 9 rfl rfl (by kernel_rfl) (Sub.refl _) (Qt.neqS rfl rfl) ?_
                  refine RW.done (by rfl) ?_
                  simp only [List.drop_succ_cons, List.drop_zero, List.drop_nil]
                  refine LW.done ?_
                  refine T.condP rfl (fun hne => ?_) (fun hne => ?_)
                  · skip
                    refine T.seq ?_
                    refine T.region ?_
                    refine LW.q rfl (Qt.assign rfl) ?_
                    refine LW.done ?_
                    refine T.ret ?_
                    exact ⟨.inl rfl, _, _, res [_] rfl ⟨rvT rfl, trivial⟩, ⟨false, kk, ss, R, rfl, x1, (fun h => by cases h), rfl⟩, Sub.any⟩
                  · skip
                    refine T.skip ?_
                    refine T.region ?_
                    refine LW.q rfl (Qt.add rfl rfl (wr64 (by omega) (by omega))) ?_
                    refine LW.q rfl (Qt.move rfl) ?_
                    refine LW.done ?_
                    refine ⟨_, ?_, _, ⟨_, i + 1, ⟨by omega, fun j hj hji => by by_cases e : j = i; subst e; rw [hy, ← Decidable.not_not.1 hne]; have := List.getElem?_eq_getElem (l := R) (i := j) hj; rw [hx] at this; rw [Option.some.inj this]; exact hpre j hj (by omega)⟩, rfl, (updS rfl (updS rfl (updS rfl (updS rfl rfl)))), rfl⟩, Sub.any⟩
                    first | omega | (simp; omega)
                · skip
                  refine T.exit ?_
                  refine T.seq ?_
                  refine T.region ?_
                  refine LW.q rfl (Qt.assign rfl) ?_
                  refine LW.done ?_
                  refine T.ret ?_
                  exact ⟨.inl rfl, _, _, res [_] rfl ⟨rvT rfl, trivial⟩, ⟨true, kk, ss, R, rfl, x1, fun _ => ⟨by omega, fun j hj => hpre j hj (by omega)⟩, rfl⟩, Sub.any⟩
      · skip
        refine RO.eS rfl rfl (Ef.alloc [.slice none 0 0, .slice none 0 0] (by unfold zeroB; kernel_rfl) ?_)
        intro g9
        refine ⟨Sub.any, ?_⟩
        refine RW.all [4, 12] (by kernel_rfl) (List.forall_mem_cons.2 ⟨?_, List.forall_mem_cons.2 ⟨?_, List.forall_mem_nil _⟩⟩)
        · skip
          refine RO.eS rfl rfl (Ef.call (Dk.sectorsF B b D) Tryd.func58 rfl rfl rfl ?_)
          rintro _ _ ⟨rfl, rfl⟩
          try simp only [List.cons_append, List.nil_append]
          rw [hN]
          refine ⟨Sub.any, ?_⟩
          refine RW.all [5, 12] (by kernel_rfl) (List.forall_mem_cons.2 ⟨?_, List.forall_mem_cons.2 ⟨?_, List.forall_mem_nil _⟩⟩)
          · skip
            refine RO.eS rfl rfl (Ef.call (Rl.open B ⟨Sc, []⟩ p none a 0 k 0 (by rw [hS]; simp) rfl (by rw [hS]; exact hD.map hN) (by omega) 0 k 0 k rfl rfl (by omega) (by omega)) Tryd.func29 rfl rfl rfl ?_)
            rintro _ _ ⟨p4, a4, kk, ss, R, q4, cq4, x1, rfl, rfl⟩
            try simp only [List.cons_append, List.nil_append]
            rw [hS, allD_map D k k (Nat.le_refl _)] at x1
            have hRl : R.length < 2 ^ 40 := by obtain ⟨es, _, k2, _, k4⟩ := scan_back (k * 256 + 1) 0 0 (allD D 0 k) (Nat.zero_le _); rw [x1] at k2; injection k2 with _ k2; injection k2 with _ k2; rw [k2, length_logR]; have h5 := length_logB_le 0 0 es; have h6 := allD_length hD (first := 0) k (by omega); omega
            refine ⟨Sub.any, ?_⟩
            refine RW.q 6 rfl rfl (by kernel_rfl) Sub.any (Qt.move rfl) ?_
            refine RW.q 7 rfl rfl (by kernel_rfl) Sub.any (Qt.extract rfl rfl) ?_
            refine RW.q 8 rfl rfl (by kernel_rfl) Sub.any (Qt.extract rfl rfl) ?_
            refine RW.q 9 rfl rfl (by kernel_rfl) Sub.any (Qt.extract rfl rfl) ?_
            refine RW.q 10 rfl rfl (by kernel_rfl) Sub.any (Qt.extract rfl rfl) ?_
            refine RW.one 12 (by kernel_rfl) ?_
            refine RO.eS rfl rfl (Ef.alloc [.string .empty, .int .u32 0, .int .i64 0, .int .i64 0, .int .i64 0] (by unfold zeroB; kernel_rfl) ?_)
            intro g10
            refine ⟨Sub.any, ?_⟩
            refine RW.one 13 (by kernel_rfl) ?_
            refine RO.eS0 rfl rfl (Ef.store [_, _] (by kernel_rfl) rfl rfl rfl rfl (by simp) ?_)
            try simp only [splice, List.length_cons, List.length_nil, List.drop_succ_cons, List.cons_append, List.take_succ_cons, List.take_zero, List.drop_zero, List.nil_append, List.append_nil]
            refine ⟨Sub.any, ?_⟩
            refine RW.one 14 (by kernel_rfl) ?_
            refine RO.eS0 rfl rfl (Ef.store [_, _, _, _, _] (by kernel_rfl) rfl rfl rfl rfl (by simp) ?_)
            try simp only [splice, List.length_cons, List.length_nil, List.drop_succ_cons, List.cons_append, List.take_succ_cons, List.take_zero, List.drop_zero, List.nil_append, List.append_nil]
            refine ⟨Sub.any, ?_⟩
            refine RW.q 15 rfl rfl (by kernel_rfl) Sub.any (Qt.assign rfl) ?_
            refine RW.done (by rfl) ?_
            simp only [List.drop_succ_cons, List.drop_zero, List.drop_nil]
            refine LW.q rfl (Qt.assign rfl) ?_
            refine LW.done ?_
            refine T.seq ?_
            refine T.seq ?_
            refine T.region ?_
            refine LW.q rfl (Qt.move rfl) ?_
            refine LW.q rfl (Qt.len (e := 123) (sz := 2) (by kernel_rfl) rfl) ?_
            refine LW.q rfl (Qt.move rfl) ?_
            refine LW.q rfl (Qt.len (e := 9) (sz := 1) (by kernel_rfl) rfl) ?_
            refine LW.q rfl (Qt.gtr rfl rfl) ?_
            refine LW.done ?_
            refine T.condP rfl (fun hgt => ?_) (fun hgt => ?_)
            · skip
              refine T.seq ?_
              refine T.region ?_
              refine LW.q rfl (Qt.assign rfl) ?_
              refine LW.done ?_
              refine T.ret ?_
              exact ⟨.inl rfl, _, _, res [_] rfl ⟨rvT rfl, trivial⟩, ⟨false, kk, ss, R, rfl, x1, (fun h => by cases h), rfl⟩, Sub.any⟩
            · skip
              clear hlt
              refine T.own (fun w ho => ?_)
              have hq4 : 0 < R.length → ∃ g, q4 = some ⟨g, 0, none⟩ := (ho.slice_at (p := q4) (m := R.length) (c := cq4)).2.1
              clear ho
              refine T.skip ?_
              refine T.seq ?_
              refine T.seq ?_
              refine T.region ?_
              refine LW.q rfl (Qt.move rfl) ?_
              refine LW.q rfl (Qt.len (e := 123) (sz := 2) (by kernel_rfl) rfl) ?_
              refine LW.q rfl (Qt.move rfl) ?_
              refine LW.done ?_
              refine T.block ?_
              refine T.loop (fun mz fz lz => ∃ (f0 : Fr) (i : Nat), (i ≤ R.length ∧ ∀ j (hj : j < R.length), j < i → ds[j]? = some R[j].2) ∧ mz = R.length - i ∧ fz = (upd (upd (upd (upd f0 1 (.slice q n c)) 11 (.slice q4 R.length cq4)) 52 (.int .i64 R.length)) 53 (.int .i64 i)) ∧ lz = drecR q4 R.length cq4 R :: dskA b D :: rS (.slice q n c) n ds :: F) ?_ ?_
              · refine ⟨_, _, ⟨_, 0, ⟨Nat.zero_le _, fun j _ h => by omega⟩, rfl, (updS rfl (updS rfl (updS rfl (updS rfl rfl)))), rfl⟩, Sub.any⟩
              · skip
                rintro mz fz lz ⟨f0, i, ⟨hi, hpre⟩, hmz, rfl, rfl⟩
                subst mz
                try simp only [List.cons_append, List.nil_append]
                refine T.seq ?_
                refine T.region ?_
                refine LW.q rfl (Qt.lss rfl rfl) ?_
                refine LW.done ?_
                refine T.seq ?_
                refine T.condP rfl (fun hlt2 => ?_) (fun hlt2 => ?_)
                · skip
                  obtain ⟨g1, rfl⟩ := hq4 (by omega)
                  obtain ⟨g2, rfl⟩ := hq (by omega)
                  obtain ⟨x, hx⟩ : ∃ x, R[i]? = some x := ⟨_, List.getElem?_eq_getElem (by omega)⟩
                  obtain ⟨y, hy⟩ : ∃ y, ds[i]? = some y := ⟨_, List.getElem?_eq_getElem (by omega)⟩
                  refine T.skip ?_
                  refine T.seq ?_
                  refine T.block ?_
                  refine T.seq ?_
                  refine T.region ?_
                  refine LW.q rfl (Qt.move rfl) ?_
                  refine LW.q rfl (Qt.assign rfl) ?_
                  refine LW.done ?_
                  refine T.seq ?_
                  refine T.drawAll 10 (by kernel_rfl) (Nat.le_of_ble_eq_true rfl) (by kernel_rfl) ?_
                  refine RW.q 0 rfl rfl (by kernel_rfl) (Sub.refl _) (Qt.move rfl) ?_
                  refine RW.q 1 rfl rfl (by kernel_rfl) (Sub.refl _) (Qt.move rfl) ?_
                  refine RW.q 2 rfl rfl (by kernel_rfl) (Sub.refl _) (Qt.index _ (e := 123) (sz := 2) (by kernel_rfl) rfl rfl rfl (by omega)) ?_
                  refine RW.q 3 rfl rfl (by kernel_rfl) (Sub.refl _) (Qt.fieldAddr (off := 1) (by kernel_rfl) rfl) ?_
                  refine RW.q 4 rfl rfl (by kernel_rfl) (Sub.refl _) (Qt.load (v := strW x.2) (by kernel_rfl) rfl (by have := (drec_at hx).2; simpa using this)) ?_
                  refine RW.q 5 rfl rfl (by kernel_rfl) (Sub.refl _) (Qt.move rfl) ?_
                  refine RW.q 6 rfl rfl (by kernel_rfl) (Sub.refl _) (Qt.move rfl) ?_
                  refine RW.q 7 rfl rfl (by kernel_rfl) (Sub.refl _) (Qt.index _ (e := 9) (sz := 1) (by kernel_rfl) rfl rfl rfl (by omega)) ?_
                  refine RW.q 8 rfl rfl (by kernel_rfl) (Sub.refl _) (Qt.load (v := strW y) (by kernel_rfl) rfl (by simp [hy])) ?_
                  refine RW.q 9 rfl rfl (by kernel_rfl) (Sub.refl _) (Qt.neqS rfl rfl) ?_
                  refine RW.done (by rfl) ?_
                  simp only [List.drop_succ_cons, List.drop_zero, List.drop_nil]
                  refine LW.done ?_
                  refine T.condP rfl (fun hne => ?_) (fun hne => ?_)
                  · skip
                    refine T.seq ?_
                    refine T.region ?_
                    refine LW.q rfl (Qt.assign rfl) ?_
                    refine LW.done ?_
                    refine T.ret ?_
                    exact ⟨.inl rfl, _, _, res [_] rfl ⟨rvT rfl, trivial⟩, ⟨false, kk, ss, R, rfl, x1, (fun h => by cases h), rfl⟩, Sub.any⟩
                  · skip
                    refine T.skip ?_
                    refine T.region ?_
                    refine LW.q rfl (Qt.add rfl rfl (wr64 (by omega) (by omega))) ?_
                    refine LW.q rfl (Qt.move rfl) ?_
                    refine LW.done ?_
                    refine ⟨_, ?_, _, ⟨_, i + 1, ⟨by omega, fun j hj hji => by by_cases e : j = i; subst e; rw [hy, ← Decidable.not_not.1 hne]; have := List.getElem?_eq_getElem (l := R) (i := j) hj; rw [hx] at this; rw [Option.some.inj this]; exact hpre j hj (by omega)⟩, rfl, (updS rfl (updS rfl (updS rfl (updS rfl rfl)))), rfl⟩, Sub.any⟩
                    first | omega | (simp; omega)
                · skip
                  refine T.exit ?_
                  refine T.seq ?_
                  refine T.region ?_
                  refine LW.q rfl (Qt.assign rfl) ?_
                  refine LW.done ?_
                  refine T.ret ?_
                  exact ⟨.inl rfl, _, _, res [_] rfl ⟨rvT rfl, trivial⟩, ⟨true, kk, ss, R, rfl, x1, fun _ => ⟨by omega, fun j hj => hpre j hj (by omega)⟩, rfl⟩, Sub.any⟩
          · skip
            refine RO.eS rfl rfl (Ef.alloc [.string .empty, .int .u32 0, .int .i64 0, .int .i64 0, .int .i64 0] (by unfold zeroB; kernel_rfl) ?_)
            intro g10
            refine ⟨Sub.any, ?_⟩
            refine RW.one 5 (by kernel_rfl) ?_
            refine RO.eS rfl rfl (Ef.call (Rl.open B ⟨Sc, []⟩ p none a 0 k 0 (by rw [hS]; simp) rfl (by rw [hS]; exact hD.map hN) (by omega) 0 k 0 k rfl rfl (by omega) (by omega)) Tryd.func29 rfl rfl rfl ?_)
            rintro _ _ ⟨p4, a4, kk, ss, R, q4, cq4, x1, rfl, rfl⟩
            try simp only [List.cons_append, List.nil_append]
            rw [hS, allD_map D k k (Nat.le_refl _)] at x1
            have hRl : R.length < 2 ^ 40 := by obtain ⟨es, _, k2, _, k4⟩ := scan_back (k * 256 + 1) 0 0 (allD D 0 k) (Nat.zero_le _); rw [x1] at k2; injection k2 with _ k2; injection k2 with _ k2; rw [k2, length_logR]; have h5 := length_logB_le 0 0 es; have h6 := allD_length hD (first := 0) k (by omega); omega
            refine ⟨Sub.any, ?_⟩
            refine RW.q 6 rfl rfl (by kernel_rfl) Sub.any (Qt.move rfl) ?_
            refine RW.q 7 rfl rfl (by kernel_rfl) Sub.any (Qt.extract rfl rfl) ?_
            refine RW.q 8 rfl rfl (by kernel_rfl) Sub.any (Qt.extract rfl rfl) ?_
            refine RW.q 9 rfl rfl (by kernel_rfl) Sub.any (Qt.extract rfl rfl) ?_
            refine RW.q 10 rfl rfl (by kernel_rfl) Sub.any (Qt.extract rfl rfl) ?_
            refine RW.one 13 (by kernel_rfl) ?_
            refine RO.eS0 rfl rfl (Ef.store [_, _] (by kernel_rfl) rfl rfl rfl rfl (by simp) ?_)
            try simp only [splice, List.length_cons, List.length_nil, List.drop_succ_cons, List.cons_append, List.take_succ_cons, List.take_zero, List.drop_zero, List.nil_append, List.append_nil]
            refine ⟨Sub.any, ?_⟩
            refine RW.one 14 (by kernel_rfl) ?_
            refine RO.eS0 rfl rfl (Ef.store [_, _, _, _, _] (by kernel_rfl) rfl rfl rfl rfl (by simp) ?_)
            try simp only [splice, List.length_cons, List.length_nil, List.drop_succ_cons, List.cons_append, List.take_succ_cons, List.take_zero, List.drop_zero, List.nil_append, List.append_nil]
            refine ⟨Sub.any, ?_⟩
            refine RW.q 15 rfl rfl (by kernel_rfl) Sub.any (Qt.assign rfl) ?_
            refine RW.done (by rfl) ?_
            simp only [List.drop_succ_cons, List.drop_zero, List.drop_nil]
            refine LW.q rfl (Qt.assign rfl) ?_
            refine LW.done ?_
            refine T.seq ?_
            refine T.seq ?_
            refine T.region ?_
            refine LW.q rfl (Qt.move rfl) ?_
            refine LW.q rfl (Qt.len (e := 123) (sz := 2) (by kernel_rfl) rfl) ?_
            refine LW.q rfl (Qt.move rfl) ?_
            refine LW.q rfl (Qt.len (e := 9) (sz := 1) (by kernel_rfl) rfl) ?_
            refine LW.q rfl (Qt.gtr rfl rfl) ?_
            refine LW.done ?_
            refine T.condP rfl (fun hgt => ?_) (fun hgt => ?_)
            · skip
              refine T.seq ?_
              refine T.region ?_
              refine LW.q rfl (Qt.assign rfl) ?_
              refine LW.done ?_
              refine T.ret ?_
              exact ⟨.inl rfl, _, _, res [_] rfl ⟨rvT rfl, trivial⟩, ⟨false, kk, ss, R, rfl, x1, (fun h => by cases h), rfl⟩, Sub.any⟩
            · skip
              clear hlt
              refine T.own (fun w ho => ?_)
              have hq4 : 0 < R.length → ∃ g, q4 = some ⟨g, 0, none⟩ := (ho.slice_at (p := q4) (m := R.length) (c := cq4)).2.1
              clear ho
              refine T.skip ?_
              refine T.seq ?_
              refine T.seq ?_
              refine T.region ?_
              refine LW.q rfl (Qt.move rfl) ?_
              refine LW.q rfl (Qt.len (e := 123) (sz := 2) (by kernel_rfl) rfl) ?_
              refine LW.q rfl (Qt.move rfl) ?_
              refine LW.done ?_
              refine T.block ?_
              refine T.loop (fun mz fz lz => ∃ (f0 : Fr) (i : Nat), (i ≤ R.length ∧ ∀ j (hj : j < R.length), j < i → ds[j]? = some R[j].2) ∧ mz = R.length - i ∧ fz = (upd (upd (upd (upd f0 1 (.slice q n c)) 11 (.slice q4 R.length cq4)) 52 (.int .i64 R.length)) 53 (.int .i64 i)) ∧ lz = drecR q4 R.length cq4 R :: dskA b D :: rS (.slice q n c) n ds :: F) ?_ ?_
              · refine ⟨_, _, ⟨_, 0, ⟨Nat.zero_le _, fun j _ h => by omega⟩, rfl, (updS rfl (updS rfl (updS rfl (updS rfl rfl)))), rfl⟩, Sub.any⟩
              · skip
                rintro mz fz lz ⟨f0, i, ⟨hi, hpre⟩, hmz, rfl, rfl⟩
                subst mz
                try simp only [List.cons_append, List.nil_append]
                refine T.seq ?_
                refine T.region ?_
                refine LW.q rfl (Qt.lss rfl rfl) ?_
                refine LW.done ?_
                refine T.seq ?_
                refine T.condP rfl (fun hlt2 => ?_) (fun hlt2 => ?_)
                · skip
                  obtain ⟨g1, rfl⟩ := hq4 (by omega)
                  obtain ⟨g2, rfl⟩ := hq (by omega)
                  obtain ⟨x, hx⟩ : ∃ x, R[i]? = some x := ⟨_, List.getElem?_eq_getElem (by omega)⟩
                  obtain ⟨y, hy⟩ : ∃ y, ds[i]? = some y := ⟨_, List.getElem?_eq_getElem (by omega)⟩
                  refine T.skip ?_
                  refine T.seq ?_
                  refine T.block ?_
                  refine T.seq ?_
                  refine T.region ?_
                  refine LW.q rfl (Qt.move rfl) ?_
                  refine LW.q rfl (Qt.assign rfl) ?_
                  refine LW.done ?_
                  refine T.seq ?_
                  refine T.drawAll 10 (by kernel_rfl) (Nat.le_of_ble_eq_true rfl) (by kernel_rfl) ?_
                  refine RW.q 0 rfl rfl (by kernel_rfl) (Sub.refl _) (Qt.move rfl) ?_
                  refine RW.q 1 rfl rfl (by kernel_rfl) (Sub.refl _) (Qt.move rfl) ?_
                  refine RW.q 2 rfl rfl (by kernel_rfl) (Sub.refl _) (Qt.index _ (e := 123) (sz := 2) (by kernel_rfl) rfl rfl rfl (by omega)) ?_
                  refine RW.q 3 rfl rfl (by kernel_rfl) (Sub.refl _) (Qt.fieldAddr (off := 1) (by kernel_rfl) rfl) ?_
                  refine RW.q 4 rfl rfl (by kernel_rfl) (Sub.refl _) (Qt.load (v := strW x.2) (by kernel_rfl) rfl (by have := (drec_at hx).2; simpa using this)) ?_
                  refine RW.q 5 rfl rfl (by kernel_rfl) (Sub.refl _) (Qt.move rfl) ?_
                  refine RW.q 6 rfl rfl (by kernel_rfl) (Sub.refl _) (Qt.move rfl) ?_
                  refine RW.q 7 rfl rfl (by kernel_rfl) (Sub.refl _) (Qt.index _ (e := 9) (sz := 1) (by kernel_rfl) rfl rfl rfl (by omega)) ?_
                  refine RW.q 8 rfl rfl (by kernel_rfl) (Sub.refl _) (Qt.load (v := strW y) (by kernel_rfl) rfl (by simp [hy])) ?_
                  refine RW.q 9 rfl rfl (by kernel_rfl) (Sub.refl _) (Qt.neqS rfl rfl) ?_
                  refine RW.done (by rfl) ?_
                  simp only [List.drop_succ_cons, List.drop_zero, List.drop_nil]
                  refine LW.done ?_
                  refine T.condP rfl (fun hne => ?_) (fun hne => ?_)
                  · skip
                    refine T.seq ?_
                    refine T.region ?_
                    refine LW.q rfl (Qt.assign rfl) ?_
                    refine LW.done ?_
                    refine T.ret ?_
                    exact ⟨.inl rfl, _, _, res [_] rfl ⟨rvT rfl, trivial⟩, ⟨false, kk, ss, R, rfl, x1, (fun h => by cases h), rfl⟩, Sub.any⟩
                  · skip
                    refine T.skip ?_
                    refine T.region ?_
                    refine LW.q rfl (Qt.add rfl rfl (wr64 (by omega) (by omega))) ?_
                    refine LW.q rfl (Qt.move rfl) ?_
                    refine LW.done ?_
                    refine ⟨_, ?_, _, ⟨_, i + 1, ⟨by omega, fun j hj hji => by by_cases e : j = i; subst e; rw [hy, ← Decidable.not_not.1 hne]; have := List.getElem?_eq_getElem (l := R) (i := j) hj; rw [hx] at this; rw [Option.some.inj this]; exact hpre j hj (by omega)⟩, rfl, (updS rfl (updS rfl (updS rfl (updS rfl rfl)))), rfl⟩, Sub.any⟩
                    first | omega | (simp; omega)
                · skip
                  refine T.exit ?_
                  refine T.seq ?_
                  refine T.region ?_
                  refine LW.q rfl (Qt.assign rfl) ?_
                  refine LW.done ?_
                  refine T.ret ?_
                  exact ⟨.inl rfl, _, _, res [_] rfl ⟨rvT rfl, trivial⟩, ⟨true, kk, ss, R, rfl, x1, fun _ => ⟨by omega, fun j hj => hpre j hj (by omega)⟩, rfl⟩, Sub.any⟩
        · skip
          refine RO.eS rfl rfl (Ef.alloc [.string .empty, .int .u32 0, .int .i64 0, .int .i64 0, .int .i64 0] (by unfold zeroB; kernel_rfl) ?_)
          intro g10
          refine ⟨Sub.any, ?_⟩
          refine RW.one 4 (by kernel_rfl) ?_
          refine RO.eS rfl rfl (Ef.call (Dk.sectorsF B b D) Tryd.func58 rfl rfl rfl ?_)
          rintro _ _ ⟨rfl, rfl⟩
          try simp only [List.cons_append, List.nil_append]
          rw [hN]
          refine ⟨Sub.any, ?_⟩
          refine RW.one 5 (by kernel_rfl) ?_
          refine RO.eS rfl rfl (Ef.call (Rl.open B ⟨Sc, []⟩ p none a 0 k 0 (by rw [hS]; simp) rfl (by rw [hS]; exact hD.map hN) (by omega) 0 k 0 k rfl rfl (by omega) (by omega)) Tryd.func29 rfl rfl rfl ?_)
          rintro _ _ ⟨p4, a4, kk, ss, R, q4, cq4, x1, rfl, rfl⟩
          try simp only [List.cons_append, List.nil_append]
          rw [hS, allD_map D k k (Nat.le_refl _)] at x1
          have hRl : R.length < 2 ^ 40 := by obtain ⟨es, _, k2, _, k4⟩ := scan_back (k * 256 + 1) 0 0 (allD D 0 k) (Nat.zero_le _); rw [x1] at k2; injection k2 with _ k2; injection k2 with _ k2; rw [k2, length_logR]; have h5 := length_logB_le 0 0 es; have h6 := allD_length hD (first := 0) k (by omega); omega
          refine ⟨Sub.any, ?_⟩
          refine RW.q 6 rfl rfl (by kernel_rfl) Sub.any (Qt.move rfl) ?_
          refine RW.q 7 rfl rfl (by kernel_rfl) Sub.any (Qt.extract rfl rfl) ?_
          refine RW.q 8 rfl rfl (by kernel_rfl) Sub.any (Qt.extract rfl rfl) ?_
          refine RW.q 9 rfl rfl (by kernel_rfl) Sub.any (Qt.extract rfl rfl) ?_
          refine RW.q 10 rfl rfl (by kernel_rfl) Sub.any (Qt.extract rfl rfl) ?_
          refine RW.one 13 (by kernel_rfl) ?_
          refine RO.eS0 rfl rfl (Ef.store [_, _] (by kernel_rfl) rfl rfl rfl rfl (by simp) ?_)
          try simp only [splice, List.length_cons, List.length_nil, List.drop_succ_cons, List.cons_append, List.take_succ_cons, List.take_zero, List.drop_zero, List.nil_append, List.append_nil]
          refine ⟨Sub.any, ?_⟩
          refine RW.one 14 (by kernel_rfl) ?_
          refine RO.eS0 rfl rfl (Ef.store [_, _, _, _, _] (by kernel_rfl) rfl rfl rfl rfl (by simp) ?_)
          try simp only [splice, List.length_cons, List.length_nil, List.drop_succ_cons, List.cons_append, List.take_succ_cons, List.take_zero, List.drop_zero, List.nil_append, List.append_nil]
          refine ⟨Sub.any, ?_⟩
          refine RW.q 15 rfl rfl (by kernel_rfl) Sub.any (Qt.assign rfl) ?_
          refine RW.done (by rfl) ?_
          simp only [List.drop_succ_cons, List.drop_zero, List.drop_nil]
          refine LW.q rfl (Qt.assign rfl) ?_
          refine LW.done ?_
          refine T.seq ?_
          refine T.seq ?_
          refine T.region ?_
          refine LW.q rfl (Qt.move rfl) ?_
          refine LW.q rfl (Qt.len (e := 123) (sz := 2) (by kernel_rfl) rfl) ?_
          refine LW.q rfl (Qt.move rfl) ?_
          refine LW.q rfl (Qt.len (e := 9) (sz := 1) (by kernel_rfl) rfl) ?_
          refine LW.q rfl (Qt.gtr rfl rfl) ?_
          refine LW.done ?_
          refine T.condP rfl (fun hgt => ?_) (fun hgt => ?_)
          · skip
            refine T.seq ?_
            refine T.region ?_
            refine LW.q rfl (Qt.assign rfl) ?_
            refine LW.done ?_
            refine T.ret ?_
            exact ⟨.inl rfl, _, _, res [_] rfl ⟨rvT rfl, trivial⟩, ⟨false, kk, ss, R, rfl, x1, (fun h => by cases h), rfl⟩, Sub.any⟩
          · skip
            clear hlt
            refine T.own (fun w ho => ?_)
            have hq4 : 0 < R.length → ∃ g, q4 = some ⟨g, 0, none⟩ := (ho.slice_at (p := q4) (m := R.length) (c := cq4)).2.1
            clear ho
            refine T.skip ?_
            refine T.seq ?_
            refine T.seq ?_
            refine T.region ?_
            refine LW.q rfl (Qt.move rfl) ?_
            refine LW.q rfl (Qt.len (e := 123) (sz := 2) (by kernel_rfl) rfl) ?_
            refine LW.q rfl (Qt.move rfl) ?_
            refine LW.done ?_
            refine T.block ?_
            refine T.loop (fun mz fz lz => ∃ (f0 : Fr) (i : Nat), (i ≤ R.length ∧ ∀ j (hj : j < R.length), j < i → ds[j]? = some R[j].2) ∧ mz = R.length - i ∧ fz = (upd (upd (upd (upd f0 1 (.slice q n c)) 11 (.slice q4 R.length cq4)) 52 (.int .i64 R.length)) 53 (.int .i64 i)) ∧ lz = drecR q4 R.length cq4 R :: dskA b D :: rS (.slice q n c) n ds :: F) ?_ ?_
            · refine ⟨_, _, ⟨_, 0, ⟨Nat.zero_le _, fun j _ h => by omega⟩, rfl, (updS rfl (updS rfl (updS rfl (updS rfl rfl)))), rfl⟩, Sub.any⟩
            · skip
              rintro mz fz lz ⟨f0, i, ⟨hi, hpre⟩, hmz, rfl, rfl⟩
              subst mz
              try simp only [List.cons_append, List.nil_append]
              refine T.seq ?_
              refine T.region ?_
              refine LW.q rfl (Qt.lss rfl rfl) ?_
              refine LW.done ?_
              refine T.seq ?_
              refine T.condP rfl (fun hlt2 => ?_) (fun hlt2 => ?_)
              · skip
                obtain ⟨g1, rfl⟩ := hq4 (by omega)
                obtain ⟨g2, rfl⟩ := hq (by omega)
                obtain ⟨x, hx⟩ : ∃ x, R[i]? = some x := ⟨_, List.getElem?_eq_getElem (by omega)⟩
                obtain ⟨y, hy⟩ : ∃ y, ds[i]? = some y := ⟨_, List.getElem?_eq_getElem (by omega)⟩
                refine T.skip ?_
                refine T.seq ?_
                refine T.block ?_
                refine T.seq ?_
                refine T.region ?_
                refine LW.q rfl (Qt.move rfl) ?_
                refine LW.q rfl (Qt.assign rfl) ?_
                refine LW.done ?_
                refine T.seq ?_
                refine T.drawAll 10 (by kernel_rfl) (Nat.le_of_ble_eq_true rfl) (by kernel_rfl) ?_
                refine RW.q 0 rfl rfl (by kernel_rfl) (Sub.refl _) (Qt.move rfl) ?_
                refine RW.q 1 rfl rfl (by kernel_rfl) (Sub.refl _) (Qt.move rfl) ?_
                refine RW.q 2 rfl rfl (by kernel_rfl) (Sub.refl _) (Qt.index _ (e := 123) (sz := 2) (by kernel_rfl) rfl rfl rfl (by omega)) ?_
                refine RW.q 3 rfl rfl (by kernel_rfl) (Sub.refl _) (Qt.fieldAddr (off := 1) (by kernel_rfl) rfl) ?_
                refine RW.q 4 rfl rfl (by kernel_rfl) (Sub.refl _) (Qt.load (v := strW x.2) (by kernel_rfl) rfl (by have := (drec_at hx).2; simpa using this)) ?_
                refine RW.q 5 rfl rfl (by kernel_rfl) (Sub.refl _) (Qt.move rfl) ?_
                refine RW.q 6 rfl rfl (by kernel_rfl) (Sub.refl _) (Qt.move rfl) ?_
                refine RW.q 7 rfl rfl (by kernel_rfl) (Sub.refl _) (Qt.index _ (e := 9) (sz := 1) (by kernel_rfl) rfl rfl rfl (by omega)) ?_
                refine RW.q 8 rfl rfl (by kernel_rfl) (Sub.refl _) (Qt.load (v := strW y) (by kernel_rfl) rfl (by simp [hy])) ?_
                refine RW.q 9 rfl rfl (by kernel_rfl) (Sub.refl _) (Qt.neqS rfl rfl) ?_
                refine RW.done (by rfl) ?_
                simp only [List.drop_succ_cons, List.drop_zero, List.drop_nil]
                refine LW.done ?_
                refine T.condP rfl (fun hne => ?_) (fun hne => ?_)
                · skip
                  refine T.seq ?_
                  refine T.region ?_
                  refine LW.q rfl (Qt.assign rfl) ?_
                  refine LW.done ?_
                  refine T.ret ?_
                  exact ⟨.inl rfl, _, _, res [_] rfl ⟨rvT rfl, trivial⟩, ⟨false, kk, ss, R, rfl, x1, (fun h => by cases h), rfl⟩, Sub.any⟩
                · skip
                  refine T.skip ?_
                  refine T.region ?_
                  refine LW.q rfl (Qt.add rfl rfl (wr64 (by omega) (by omega))) ?_
                  refine LW.q rfl (Qt.move rfl) ?_
                  refine LW.done ?_
                  refine ⟨_, ?_, _, ⟨_, i + 1, ⟨by omega, fun j hj hji => by by_cases e : j = i; subst e; rw [hy, ← Decidable.not_not.1 hne]; have := List.getElem?_eq_getElem (l := R) (i := j) hj; rw [hx] at this; rw [Option.some.inj this]; exact hpre j hj (by omega)⟩, rfl, (updS rfl (updS rfl (updS rfl (updS rfl rfl)))), rfl⟩, Sub.any⟩
                  first | omega | (simp; omega)
              · skip
                refine T.exit ?_
                refine T.seq ?_
                refine T.region ?_
                refine LW.q rfl (Qt.assign rfl) ?_
                refine LW.done ?_
                refine T.ret ?_
                exact ⟨.inl rfl, _, _, res [_] rfl ⟨rvT rfl, trivial⟩, ⟨true, kk, ss, R, rfl, x1, fun _ => ⟨by omega, fun j hj => hpre j hj (by omega)⟩, rfl⟩, Sub.any⟩
      · skip
        refine RO.eS rfl rfl (Ef.alloc [.string .empty, .int .u32 0, .int .i64 0, .int .i64 0, .int .i64 0] (by unfold zeroB; kernel_rfl) ?_)
        intro g10
        refine ⟨Sub.any, ?_⟩
        refine RW.all [4, 11] (by kernel_rfl) (List.forall_mem_cons.2 ⟨?_, List.forall_mem_cons.2 ⟨?_, List.forall_mem_nil _⟩⟩)
        · skip
          refine RO.eS rfl rfl (Ef.call (Dk.sectorsF B b D) Tryd.func58 rfl rfl rfl ?_)
          rintro _ _ ⟨rfl, rfl⟩
          try simp only [List.cons_append, List.nil_append]
          rw [hN]
          refine ⟨Sub.any, ?_⟩
          refine RW.all [5, 11] (by kernel_rfl) (List.forall_mem_cons.2 ⟨?_, List.forall_mem_cons.2 ⟨?_, List.forall_mem_nil _⟩⟩)
          · skip
            refine RO.eS rfl rfl (Ef.call (Rl.open B ⟨Sc, []⟩ p none a 0 k 0 (by rw [hS]; simp) rfl (by rw [hS]; exact hD.map hN) (by omega) 0 k 0 k rfl rfl (by omega) (by omega)) Tryd.func29 rfl rfl rfl ?_)
            rintro _ _ ⟨p4, a4, kk, ss, R, q4, cq4, x1, rfl, rfl⟩
            try simp only [List.cons_append, List.nil_append]
            rw [hS, allD_map D k k (Nat.le_refl _)] at x1
            have hRl : R.length < 2 ^ 40 := by obtain ⟨es, _, k2, _, k4⟩ := scan_back (k * 256 + 1) 0 0 (allD D 0 k) (Nat.zero_le _); rw [x1] at k2; injection k2 with _ k2; injection k2 with _ k2; rw [k2, length_logR]; have h5 := length_logB_le 0 0 es; have h6 := allD_length hD (first := 0) k (by omega); omega
            refine ⟨Sub.any, ?_⟩
            refine RW.q 6 rfl rfl (by kernel_rfl) Sub.any (Qt.move rfl) ?_
            refine RW.q 7 rfl rfl (by kernel_rfl) Sub.any (Qt.extract rfl rfl) ?_
            refine RW.q 8 rfl rfl (by kernel_rfl) Sub.any (Qt.extract rfl rfl) ?_
            refine RW.q 9 rfl rfl (by kernel_rfl) Sub.any (Qt.extract rfl rfl) ?_
            refine RW.q 10 rfl rfl (by kernel_rfl) Sub.any (Qt.extract rfl rfl) ?_
            refine RW.one 11 (by kernel_rfl) ?_
            refine RO.eS rfl rfl (Ef.alloc [.slice none 0 0, .slice none 0 0] (by unfold zeroB; kernel_rfl) ?_)
            intro g9
            refine ⟨Sub.any, ?_⟩
            refine RW.one 13 (by kernel_rfl) ?_
            refine RO.eS0 rfl rfl (Ef.store [_, _] (by kernel_rfl) rfl rfl rfl rfl (by simp) ?_)
            try simp only [splice, List.length_cons, List.length_nil, List.drop_succ_cons, List.cons_append, List.take_succ_cons, List.take_zero, List.drop_zero, List.nil_append, List.append_nil]
            refine ⟨Sub.any, ?_⟩
            refine RW.one 14 (by kernel_rfl) ?_
            refine RO.eS0 rfl rfl (Ef.store [_, _, _, _, _] (by kernel_rfl) rfl rfl rfl rfl (by simp) ?_)
            try simp only [splice, List.length_cons, List.length_nil, List.drop_succ_cons, List.cons_append, List.take_succ_cons, List.take_zero, List.drop_zero, List.nil_append, List.append_nil]
            refine ⟨Sub.any, ?_⟩
            refine RW.q 15 rfl rfl (by kernel_rfl) Sub.any (Qt.assign rfl) ?_
            refine RW.done (by rfl) ?_
            simp only [List.drop_succ_cons, List.drop_zero, List.drop_nil]
            refine LW.q rfl (Qt.assign rfl) ?_
            refine LW.done ?_
            refine T.seq ?_
            refine T.seq ?_
            refine T.region ?_
            refine LW.q rfl (Qt.move rfl) ?_
            refine LW.q rfl (Qt.len (e := 123) (sz := 2) (by kernel_rfl) rfl) ?_
            refine LW.q rfl (Qt.move rfl) ?_
            refine LW.q rfl (Qt.len (e := 9) (sz := 1) (by kernel_rfl) rfl) ?_
            refine LW.q rfl (Qt.gtr rfl rfl) ?_
            refine LW.done ?_
            refine T.condP rfl (fun hgt => ?_) (fun hgt => ?_)
            · skip
              refine T.seq ?_
              refine T.region ?_
              refine LW.q rfl (Qt.assign rfl) ?_
              refine LW.done ?_
              refine T.ret ?_
              exact ⟨.inl rfl, _, _, res [_] rfl ⟨rvT rfl, trivial⟩, ⟨false, kk, ss, R, rfl, x1, (fun h => by cases h), rfl⟩, Sub.any⟩
            · skip
              clear hlt
              refine T.own (fun w ho => ?_)
              have hq4 : 0 < R.length → ∃ g, q4 = some ⟨g, 0, none⟩ := (ho.slice_at (p := q4) (m := R.length) (c := cq4)).2.1
              clear ho
              refine T.skip ?_
              refine T.seq ?_
              refine T.seq ?_
              refine T.region ?_
              refine LW.q rfl (Qt.move rfl) ?_
              refine LW.q rfl (Qt.len (e := 123) (sz := 2) (by kernel_rfl) rfl) ?_
              refine LW.q rfl (Qt.move rfl) ?_
              refine LW.done ?_
              refine T.block ?_
              refine T.loop (fun mz fz lz => ∃ (f0 : Fr) (i : Nat), (i ≤ R.length ∧ ∀ j (hj : j < R.length), j < i → ds[j]? = some R[j].2) ∧ mz = R.length - i ∧ fz = (upd (upd (upd (upd f0 1 (.slice q n c)) 11 (.slice q4 R.length cq4)) 52 (.int .i64 R.length)) 53 (.int .i64 i)) ∧ lz = drecR q4 R.length cq4 R :: dskA b D :: rS (.slice q n c) n ds :: F) ?_ ?_
              · refine ⟨_, _, ⟨_, 0, ⟨Nat.zero_le _, fun j _ h => by omega⟩, rfl, (updS rfl (updS rfl (updS rfl (updS rfl rfl)))), rfl⟩, Sub.any⟩
              · skip
                rintro mz fz lz ⟨f0, i, ⟨hi, hpre⟩, hmz, rfl, rfl⟩
                subst mz
                try simp only [List.cons_append, List.nil_append]
                refine T.seq ?_
                refine T.region ?_
                refine LW.q rfl (Qt.lss rfl rfl) ?_
                refine LW.done ?_
                refine T.seq ?_
                refine T.condP rfl (fun hlt2 => ?_) (fun hlt2 => ?_)
                · skip
                  obtain ⟨g1, rfl⟩ := hq4 (by omega)
                  obtain ⟨g2, rfl⟩ := hq (by omega)
                  obtain ⟨x, hx⟩ : ∃ x, R[i]? = some x := ⟨_, List.getElem?_eq_getElem (by omega)⟩
                  obtain ⟨y, hy⟩ : ∃ y, ds[i]? = some y := ⟨_, List.getElem?_eq_getElem (by omega)⟩
                  refine T.skip ?_
                  refine T.seq ?_
                  refine T.block ?_
                  refine T.seq ?_
                  refine T.region ?_
                  refine LW.q rfl (Qt.move rfl) ?_
                  refine LW.q rfl (Qt.assign rfl) ?_
                  refine LW.done ?_
                  refine T.seq ?_
                  refine T.drawAll 10 (by kernel_rfl) (Nat.le_of_ble_eq_true rfl) (by kernel_rfl) ?_
                  refine RW.q 0 rfl rfl (by kernel_rfl) (Sub.refl _) (Qt.move rfl) ?_
                  refine RW.q 1 rfl rfl (by kernel_rfl) (Sub.refl _) (Qt.move rfl) ?_
                  refine RW.q 2 rfl rfl (by kernel_rfl) (Sub.refl _) (Qt.index _ (e := 123) (sz := 2) (by kernel_rfl) rfl rfl rfl (by omega)) ?_
                  refine RW.q 3 rfl rfl (by kernel_rfl) (Sub.refl _) (Qt.fieldAddr (off := 1) (by kernel_rfl) rfl) ?_
                  refine RW.q 4 rfl rfl (by kernel_rfl) (Sub.refl _) (Qt.load (v := strW x.2) (by kernel_rfl) rfl (by have := (drec_at hx).2; simpa using this)) ?_
                  refine RW.q 5 rfl rfl (by kernel_rfl) (Sub.refl _) (Qt.move rfl) ?_
                  refine RW.q 6 rfl rfl (by kernel_rfl) (Sub.refl _) (Qt.move rfl) ?_
                  refine RW.q 7 rfl rfl (by kernel_rfl) (Sub.refl _) (Qt.index _ (e := 9) (sz := 1) (by kernel_rfl) rfl rfl rfl (by omega)) ?_
                  refine RW.q 8 rfl rfl (by kernel_rfl) (Sub.refl _) (Qt.load (v := strW y) (by kernel_rfl) rfl (by simp [hy])) ?_
                  refine RW.q 9 rfl rfl (by kernel_rfl) (Sub.refl _) (Qt.neqS rfl rfl) ?_
                  refine RW.done (by rfl) ?_
                  simp only [List.drop_succ_cons, List.drop_zero, List.drop_nil]
                  refine LW.done ?_
                  refine T.condP rfl (fun hne => ?_) (fun hne => ?_)
                  · skip
                    refine T.seq ?_
                    refine T.region ?_
                    refine LW.q rfl (Qt.assign rfl) ?_
                    refine LW.done ?_
                    refine T.ret ?_
                    exact ⟨.inl rfl, _, _, res [_] rfl ⟨rvT rfl, trivial⟩, ⟨false, kk, ss, R, rfl, x1, (fun h => by cases h), rfl⟩, Sub.any⟩
                  · skip
                    refine T.skip ?_
                    refine T.region ?_
                    refine LW.q rfl (Qt.add rfl rfl (wr64 (by omega) (by omega))) ?_
                    refine LW.q rfl (Qt.move rfl) ?_
                    refine LW.done ?_
                    refine ⟨_, ?_, _, ⟨_, i + 1, ⟨by omega, fun j hj hji => by by_cases e : j = i; subst e; rw [hy, ← Decidable.not_not.1 hne]; have := List.getElem?_eq_getElem (l := R) (i := j) hj; rw [hx] at this; rw [Option.some.inj this]; exact hpre j hj (by omega)⟩, rfl, (updS rfl (updS rfl (updS rfl (updS rfl rfl)))), rfl⟩, Sub.any⟩
                    first | omega | (simp; omega)
                · skip
                  refine T.exit ?_
                  refine T.seq ?_
                  refine T.region ?_
                  refine LW.q rfl (Qt.assign rfl) ?_
                  refine LW.done ?_
                  refine T.ret ?_
                  exact ⟨.inl rfl, _, _, res [_] rfl ⟨rvT rfl, trivial⟩, ⟨true, kk, ss, R, rfl, x1, fun _ => ⟨by omega, fun j hj => hpre j hj (by omega)⟩, rfl⟩, Sub.any⟩
          · skip
            refine RO.eS rfl rfl (Ef.alloc [.slice none 0 0, .slice none 0 0] (by unfold zeroB; kernel_rfl) ?_)
            intro g9
            refine ⟨Sub.any, ?_⟩
            refine RW.one 5 (by kernel_rfl) ?_
            refine RO.eS rfl rfl (Ef.call (Rl.open B ⟨Sc, []⟩ p none a 0 k 0 (by rw [hS]; simp) rfl (by rw [hS]; exact hD.map hN) (by omega) 0 k 0 k rfl rfl (by omega) (by omega)) Tryd.func29 rfl rfl rfl ?_)
            rintro _ _ ⟨p4, a4, kk, ss, R, q4, cq4, x1, rfl, rfl⟩
            try simp only [List.cons_append, List.nil_append]
            rw [hS, allD_map D k k (Nat.le_refl _)] at x1
            have hRl : R.length < 2 ^ 40 := by obtain ⟨es, _, k2, _, k4⟩ := scan_back (k * 256 + 1) 0 0 (allD D 0 k) (Nat.zero_le _); rw [x1] at k2; injection k2 with _ k2; injection k2 with _ k2; rw [k2, length_logR]; have h5 := length_logB_le 0 0 es; have h6 := allD_length hD (first := 0) k (by omega); omega
            refine ⟨Sub.any, ?_⟩
            refine RW.q 6 rfl rfl (by kernel_rfl) Sub.any (Qt.move rfl) ?_
            refine RW.q 7 rfl rfl (by kernel_rfl) Sub.any (Qt.extract rfl rfl) ?_
            refine RW.q 8 rfl rfl (by kernel_rfl) Sub.any (Qt.extract rfl rfl) ?_
            refine RW.q 9 rfl rfl (by kernel_rfl) Sub.any (Qt.extract rfl rfl) ?_
            refine RW.q 10 rfl rfl (by kernel_rfl) Sub.any (Qt.extract rfl rfl) ?_
            refine RW.one 13 (by kernel_rfl) ?_
            refine RO.eS0 rfl rfl (Ef.store [_, _] (by kernel_rfl) rfl rfl rfl rfl (by simp) ?_)
            try simp only [splice, List.length_cons, List.length_nil, List.drop_succ_cons, List.cons_append, List.take_succ_cons, List.take_zero, List.drop_zero, List.nil_append, List.append_nil]
            refine ⟨Sub.any, ?_⟩
            refine RW.one 14 (by kernel_rfl) ?_
            refine RO.eS0 rfl rfl (Ef.store [_, _, _, _, _] (by kernel_rfl) rfl rfl rfl rfl (by simp) ?_)
            try simp only [splice, List.length_cons, List.length_nil, List.drop_succ_cons, List.cons_append, List.take_succ_cons, List.take_zero, List.drop_zero, List.nil_append, List.append_nil]
            refine ⟨Sub.any, ?_⟩
            refine RW.q 15 rfl rfl (by kernel_rfl) Sub.any (Qt.assign rfl) ?_
            refine RW.done (by rfl) ?_
            simp only [List.drop_succ_cons, List.drop_zero, List.drop_nil]
            refine LW.q rfl (Qt.assign rfl) ?_
            refine LW.done ?_
            refine T.seq ?_
            refine T.seq ?_
            refine T.region ?_
            refine LW.q rfl (Qt.move rfl) ?_
            refine LW.q rfl (Qt.len (e := 123) (sz := 2) (by kernel_rfl) rfl) ?_
            refine LW.q rfl (Qt.move rfl) ?_
            refine LW.q rfl (Qt.len (e := 9) (sz := 1) (by kernel_rfl) rfl) ?_
            refine LW.q rfl (Qt.gtr rfl rfl) ?_
            refine LW.done ?_
            refine T.condP rfl (fun hgt => ?_) (fun hgt => ?_)
            · skip
              refine T.seq ?_
              refine T.region ?_
              refine LW.q rfl (Qt.assign rfl) ?_
              refine LW.done ?_
              refine T.ret ?_
              exact ⟨.inl rfl, _, _, res [_] rfl ⟨rvT rfl, trivial⟩, ⟨false, kk, ss, R, rfl, x1, (fun h => by cases h), rfl⟩, Sub.any⟩
            · skip
              clear hlt
              refine T.own (fun w ho => ?_)
              have hq4 : 0 < R.length → ∃ g, q4 = some ⟨g, 0, none⟩ := (ho.slice_at (p := q4) (m := R.length) (c := cq4)).2.1
              clear ho
              refine T.skip ?_
              refine T.seq ?_
              refine T.seq ?_
              refine T.region ?_
              refine LW.q rfl (Qt.move rfl) ?_
              refine LW.q rfl (Qt.len (e := 123) (sz := 2) (by kernel_rfl) rfl) ?_
              refine LW.q rfl (Qt.move rfl) ?_
              refine LW.done ?_
              refine T.block ?_
              refine T.loop (fun mz fz lz => ∃ (f0 : Fr) (i : Nat), (i ≤ R.length ∧ ∀ j (hj : j < R.length), j < i → ds[j]? = some R[j].2) ∧ mz = R.length - i ∧ fz = (upd (upd (upd (upd f0 1 (.slice q n c)) 11 (.slice q4 R.length cq4)) 52 (.int .i64 R.length)) 53 (.int .i64 i)) ∧ lz = drecR q4 R.length cq4 R :: dskA b D :: rS (.slice q n c) n ds :: F) ?_ ?_
              · refine ⟨_, _, ⟨_, 0, ⟨Nat.zero_le _, fun j _ h => by omega⟩, rfl, (updS rfl (updS rfl (updS rfl (updS rfl rfl)))), rfl⟩, Sub.any⟩
              · skip
                rintro mz fz lz ⟨f0, i, ⟨hi, hpre⟩, hmz, rfl, rfl⟩
                subst mz
                try simp only [List.cons_append, List.nil_append]
                refine T.seq ?_
                refine T.region ?_
                refine LW.q rfl (Qt.lss rfl rfl) ?_
                refine LW.done ?_
                refine T.seq ?_
                refine T.condP rfl (fun hlt2 => ?_) (fun hlt2 => ?_)
                · skip
                  obtain ⟨g1, rfl⟩ := hq4 (by omega)
                  obtain ⟨g2, rfl⟩ := hq (by omega)
                  obtain ⟨x, hx⟩ : ∃ x, R[i]? = some x := ⟨_, List.getElem?_eq_getElem (by omega)⟩
                  obtain ⟨y, hy⟩ : ∃ y, ds[i]? = some y := ⟨_, List.getElem?_eq_getElem (by omega)⟩
                  refine T.skip ?_
                  refine T.seq ?_
                  refine T.block ?_
                  refine T.seq ?_
                  refine T.region ?_
                  refine LW.q rfl (Qt.move rfl) ?_
                  refine LW.q rfl (Qt.assign rfl) ?_
                  refine LW.done ?_
                  refine T.seq ?_
                  refine T.drawAll 10 (by kernel_rfl) (Nat.le_of_ble_eq_true rfl) (by kernel_rfl) ?_
                  refine RW.q 0 rfl rfl (by kernel_rfl) (Sub.refl _) (Qt.move rfl) ?_
                  refine RW.q 1 rfl rfl (by kernel_rfl) (Sub.refl _) (Qt.move rfl) ?_
                  refine RW.q 2 rfl rfl (by kernel_rfl) (Sub.refl _) (Qt.index _ (e := 123) (sz := 2) (by kernel_rfl) rfl rfl rfl (by omega)) ?_
                  refine RW.q 3 rfl rfl (by kernel_rfl) (Sub.refl _) (Qt.fieldAddr (off := 1) (by kernel_rfl) rfl) ?_
                  refine RW.q 4 rfl rfl (by kernel_rfl) (Sub.refl _) (Qt.load (v := strW x.2) (by kernel_rfl) rfl (by have := (drec_at hx).2; simpa using this)) ?_
                  refine RW.q 5 rfl rfl (by kernel_rfl) (Sub.refl _) (Qt.move rfl) ?_
                  refine RW.q 6 rfl rfl (by kernel_rfl) (Sub.refl _) (Qt.move rfl) ?_
                  refine RW.q 7 rfl rfl (by kernel_rfl) (Sub.refl _) (Qt.index _ (e := 9) (sz := 1) (by kernel_rfl) rfl rfl rfl (by omega)) ?_
                  refine RW.q 8 rfl rfl (by kernel_rfl) (Sub.refl _) (Qt.load (v := strW y) (by kernel_rfl) rfl (by simp [hy])) ?_
                  refine RW.q 9 rfl rfl (by kernel_rfl) (Sub.refl _) (Qt.neqS rfl rfl) ?_
                  refine RW.done (by rfl) ?_
                  simp only [List.drop_succ_cons, List.drop_zero, List.drop_nil]
                  refine LW.done ?_
                  refine T.condP rfl (fun hne => ?_) (fun hne => ?_)
                  · skip
                    refine T.seq ?_
                    refine T.region ?_
                    refine LW.q rfl (Qt.assign rfl) ?_
                    refine LW.done ?_
                    refine T.ret ?_
                    exact ⟨.inl rfl, _, _, res [_] rfl ⟨rvT rfl, trivial⟩, ⟨false, kk, ss, R, rfl, x1, (fun h => by cases h), rfl⟩, Sub.any⟩
                  · skip
                    refine T.skip ?_
                    refine T.region ?_
                    refine LW.q rfl (Qt.add rfl rfl (wr64 (by omega) (by omega))) ?_
                    refine LW.q rfl (Qt.move rfl) ?_
                    refine LW.done ?_
                    refine ⟨_, ?_, _, ⟨_, i + 1, ⟨by omega, fun j hj hji => by by_cases e : j = i; subst e; rw [hy, ← Decidable.not_not.1 hne]; have := List.getElem?_eq_getElem (l := R) (i := j) hj; rw [hx] at this; rw [Option.some.inj this]; exact hpre j hj (by omega)⟩, rfl, (updS rfl (updS rfl (updS rfl (updS rfl rfl)))), rfl⟩, Sub.any⟩
                    first | omega | (simp; omega)
                · skip
                  refine T.exit ?_
                  refine T.seq ?_
                  refine T.region ?_
                  refine LW.q rfl (Qt.assign rfl) ?_
                  refine LW.done ?_
                  refine T.ret ?_
                  exact ⟨.inl rfl, _, _, res [_] rfl ⟨rvT rfl, trivial⟩, ⟨true, kk, ss, R, rfl, x1, fun _ => ⟨by omega, fun j hj => hpre j hj (by omega)⟩, rfl⟩, Sub.any⟩
        · skip
          refine RO.eS rfl rfl (Ef.alloc [.slice none 0 0, .slice none 0 0] (by unfold zeroB; kernel_rfl) ?_)
          intro g9
          refine ⟨Sub.any, ?_⟩
          refine RW.one 4 (by kernel_rfl) ?_
          refine RO.eS rfl rfl (Ef.call (Dk.sectorsF B b D) Tryd.func58 rfl rfl rfl ?_)
          rintro _ _ ⟨rfl, rfl⟩
          try simp only [List.cons_append, List.nil_append]
          rw [hN]
          refine ⟨Sub.any, ?_⟩
          refine RW.one 5 (by kernel_rfl) ?_
          refine RO.eS rfl rfl (Ef.call (Rl.open B ⟨Sc, []⟩ p none a 0 k 0 (by rw [hS]; simp) rfl (by rw [hS]; exact hD.map hN) (by omega) 0 k 0 k rfl rfl (by omega) (by omega)) Tryd.func29 rfl rfl rfl ?_)
          rintro _ _ ⟨p4, a4, kk, ss, R, q4, cq4, x1, rfl, rfl⟩
          try simp only [List.cons_append, List.nil_append]
          rw [hS, allD_map D k k (Nat.le_refl _)] at x1
          have hRl : R.length < 2 ^ 40 := by obtain ⟨es, _, k2, _, k4⟩ := scan_back (k * 256 + 1) 0 0 (allD D 0 k) (Nat.zero_le _); rw [x1] at k2; injection k2 with _ k2; injection k2 with _ k2; rw [k2, length_logR]; have h5 := length_logB_le 0 0 es; have h6 := allD_length hD (first := 0) k (by omega); omega
          refine ⟨Sub.any, ?_⟩
          refine RW.q 6 rfl rfl (by kernel_rfl) Sub.any (Qt.move rfl) ?_
          refine RW.q 7 rfl rfl (by kernel_rfl) Sub.any (Qt.extract rfl rfl) ?_
          refine RW.q 8 rfl rfl (by kernel_rfl) Sub.any (Qt.extract rfl rfl) ?_
          refine RW.q 9 rfl rfl (by kernel_rfl) Sub.any (Qt.extract rfl rfl) ?_
          refine RW.q 10 rfl rfl (by kernel_rfl) Sub.any (Qt.extract rfl rfl) ?_
          refine RW.one 13 (by kernel_rfl) ?_
          refine RO.eS0 rfl rfl (Ef.store [_, _] (by kernel_rfl) rfl rfl rfl rfl (by simp) ?_)
          try simp only [splice, List.length_cons, List.length_nil, List.drop_succ_cons, List.cons_append, List.take_succ_cons, List.take_zero, List.drop_zero, List.nil_append, List.append_nil]
          refine ⟨Sub.any, ?_⟩
          refine RW.one 14 (by kernel_rfl) ?_
          refine RO.eS0 rfl rfl (Ef.store [_, _, _, _, _] (by kernel_rfl) rfl rfl rfl rfl (by simp) ?_)
          try simp only [splice, List.length_cons, List.length_nil, List.drop_succ_cons, List.cons_append, List.take_succ_cons, List.take_zero, List.drop_zero, List.nil_append, List.append_nil]
          refine ⟨Sub.any, ?_⟩
          refine RW.q 15 rfl rfl (by kernel_rfl) Sub.any (Qt.assign rfl) ?_
          refine RW.done (by rfl) ?_
          simp only [List.drop_succ_cons, List.drop_zero, List.drop_nil]
          refine LW.q rfl (Qt.assign rfl) ?_
          refine LW.done ?_
          refine T.seq ?_
          refine T.seq ?_
          refine T.region ?_
          refine LW.q rfl (Qt.move rfl) ?_
          refine LW.q rfl (Qt.len (e := 123) (sz := 2) (by kernel_rfl) rfl) ?_
          refine LW.q rfl (Qt.move rfl) ?_
          refine LW.q rfl (Qt.len (e := 9) (sz := 1) (by kernel_rfl) rfl) ?_
          refine LW.q rfl (Qt.gtr rfl rfl) ?_
          refine LW.done ?_
          refine T.condP rfl (fun hgt => ?_) (fun hgt => ?_)
          · skip
            refine T.seq ?_
            refine T.region ?_
            refine LW.q rfl (Qt.assign rfl) ?_
            refine LW.done ?_
            refine T.ret ?_
            exact ⟨.inl rfl, _, _, res [_] rfl ⟨rvT rfl, trivial⟩, ⟨false, kk, ss, R, rfl, x1, (fun h => by cases h), rfl⟩, Sub.any⟩
          · skip
            clear hlt
            refine T.own (fun w ho => ?_)
            have hq4 : 0 < R.length → ∃ g, q4 = some ⟨g, 0, none⟩ := (ho.slice_at (p := q4) (m := R.length) (c := cq4)).2.1
            clear ho
            refine T.skip ?_
            refine T.seq ?_
            refine T.seq ?_
            refine T.region ?_
            refine LW.q rfl (Qt.move rfl) ?_
            refine LW.q rfl (Qt.len (e := 123) (sz := 2) (by kernel_rfl) rfl) ?_
            refine LW.q rfl (Qt.move rfl) ?_
            refine LW.done ?_
            refine T.block ?_
            refine T.loop (fun mz fz lz => ∃ (f0 : Fr) (i : Nat), (i ≤ R.length ∧ ∀ j (hj : j < R.length), j < i → ds[j]? = some R[j].2) ∧ mz = R.length - i ∧ fz = (upd (upd (upd (upd f0 1 (.slice q n c)) 11 (.slice q4 R.length cq4)) 52 (.int .i64 R.length)) 53 (.int .i64 i)) ∧ lz = drecR q4 R.length cq4 R :: dskA b D :: rS (.slice q n c) n ds :: F) ?_ ?_
            · refine ⟨_, _, ⟨_, 0, ⟨Nat.zero_le _, fun j _ h => by omega⟩, rfl, (updS rfl (updS rfl (updS rfl (updS rfl rfl)))), rfl⟩, Sub.any⟩
            · skip
              rintro mz fz lz ⟨f0, i, ⟨hi, hpre⟩, hmz, rfl, rfl⟩
              subst mz
              try simp only [List.cons_append, List.nil_append]
              refine T.seq ?_
              refine T.region ?_
              refine LW.q rfl (Qt.lss rfl rfl) ?_
              refine LW.done ?_
              refine T.seq ?_
              refine T.condP rfl (fun hlt2 => ?_) (fun hlt2 => ?_)
              · skip
                obtain ⟨g1, rfl⟩ := hq4 (by omega)
                obtain ⟨g2, rfl⟩ := hq (by omega)
                obtain ⟨x, hx⟩ : ∃ x, R[i]? = some x := ⟨_, List.getElem?_eq_getElem (by omega)⟩
                obtain ⟨y, hy⟩ : ∃ y, ds[i]? = some y := ⟨_, List.getElem?_eq_getElem (by omega)⟩
                refine T.skip ?_
                refine T.seq ?_
                refine T.block ?_
                refine T.seq ?_
                refine T.region ?_
                refine LW.q rfl (Qt.move rfl) ?_
                refine LW.q rfl (Qt.assign rfl) ?_
                refine LW.done ?_
                refine T.seq ?_
                refine T.drawAll 10 (by kernel_rfl) (Nat.le_of_ble_eq_true rfl) (by kernel_rfl) ?_
                refine RW.q 0 rfl rfl (by kernel_rfl) (Sub.refl _) (Qt.move rfl) ?_
                refine RW.q 1 rfl rfl (by kernel_rfl) (Sub.refl _) (Qt.move rfl) ?_
                refine RW.q 2 rfl rfl (by kernel_rfl) (Sub.refl _) (Qt.index _ (e := 123) (sz := 2) (by kernel_rfl) rfl rfl rfl (by omega)) ?_
                refine RW.q 3 rfl rfl (by kernel_rfl) (Sub.refl _) (Qt.fieldAddr (off := 1) (by kernel_rfl) rfl) ?_
                refine RW.q 4 rfl rfl (by kernel_rfl) (Sub.refl _) (Qt.load (v := strW x.2) (by kernel_rfl) rfl (by have := (drec_at hx).2; simpa using this)) ?_
                refine RW.q 5 rfl rfl (by kernel_rfl) (Sub.refl _) (Qt.move rfl) ?_
                refine RW.q 6 rfl rfl (by kernel_rfl) (Sub.refl _) (Qt.move rfl) ?_
                refine RW.q 7 rfl rfl (by kernel_rfl) (Sub.refl _) (Qt.index _ (e := 9) (sz := 1) (by kernel_rfl) rfl rfl rfl (by omega)) ?_
                refine RW.q 8 rfl rfl (by kernel_rfl) (Sub.refl _) (Qt.load (v := strW y) (by kernel_rfl) rfl (by simp [hy])) ?_
                refine RW.q 9 rfl rfl (by kernel_rfl) (Sub.refl _) (Qt.neqS rfl rfl) ?_
                refine RW.done (by rfl) ?_
                simp only [List.drop_succ_cons, List.drop_zero, List.drop_nil]
                refine LW.done ?_
                refine T.condP rfl (fun hne => ?_) (fun hne => ?_)
                · skip
                  refine T.seq ?_
                  refine T.region ?_
                  refine LW.q rfl (Qt.assign rfl) ?_
                  refine LW.done ?_
                  refine T.ret ?_
                  exact ⟨.inl rfl, _, _, res [_] rfl ⟨rvT rfl, trivial⟩, ⟨false, kk, ss, R, rfl, x1, (fun h => by cases h), rfl⟩, Sub.any⟩
                · skip
                  refine T.skip ?_
                  refine T.region ?_
                  refine LW.q rfl (Qt.add rfl rfl (wr64 (by omega) (by omega))) ?_
                  refine LW.q rfl (Qt.move rfl) ?_
                  refine LW.done ?_
                  refine ⟨_, ?_, _, ⟨_, i + 1, ⟨by omega, fun j hj hji => by by_cases e : j = i; subst e; rw [hy, ← Decidable.not_not.1 hne]; have := List.getElem?_eq_getElem (l := R) (i := j) hj; rw [hx] at this; rw [Option.some.inj this]; exact hpre j hj (by omega)⟩, rfl, (updS rfl (updS rfl (updS rfl (updS rfl rfl)))), rfl⟩, Sub.any⟩
                  first | omega | (simp; omega)
              · skip
                refine T.exit ?_
                refine T.seq ?_
                refine T.region ?_
                refine LW.q rfl (Qt.assign rfl) ?_
                refine LW.done ?_
                refine T.ret ?_
                exact ⟨.inl rfl, _, _, res [_] rfl ⟨rvT rfl, trivial⟩, ⟨true, kk, ss, R, rfl, x1, fun _ => ⟨by omega, fun j hj => hpre j hj (by omega)⟩, rfl⟩, Sub.any⟩
end Go.Proofs.YtjjhbpjbngdlnaaDoor
