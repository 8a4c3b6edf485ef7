/- The document's log (annalsref05): Seal, Add, sector. Conditions: sizes. -/
import Derived.Test.YtjjhbpjbngdlnaaDoorRfZ
import Derived.Test.YtjjhbpjbngdlnaaDoorRcB
import Derived.Test.YtjjhbpjbngdlnaaDoorWlN
set_option linter.unusedSimpArgs false
set_option linter.unusedVariables false
namespace Go.Proofs.YtjjhbpjbngdlnaaDoor
open Go.RowKit

/-- The document's log. -/
abbrev logV (W : Wl) : Value := .agg #[.string (strOf W.st), .int .u32 W.sum.toNat, .int .i64 W.dur, .int .i64 W.first, .int .i64 W.count]

set_option maxRecDepth 100000 in
theorem Rl.shut (B : Base) (last : UInt32) (at_ : Int) (d : List UInt8) (hd : d.length < 2 ^ 31) : Fn Tryd.prog B 67 #[.int .u32 last.toNat, .int .i64 at_, .string (strOf d)] [] (fun v l => v = .int .u32 (sealW last at_ d).toNat ∧ l = []) := by
  refine Fn.enter3 17 Tryd.func67 rfl rfl (Nat.le_of_ble_eq_true rfl) (fun F => ?_)
  try simp only [List.cons_append, List.nil_append]
  refine T.seq ?_
  refine T.region ?_
  refine LW.q rfl (Qt.assign rfl) ?_
  refine LW.done ?_
  refine T.seq ?_
  refine T.region ?_
  refine LW.q rfl (Qt.move rfl) ?_
  refine LW.q rfl (Qt.convI (by kernel_rfl) (by kernel_rfl) rfl (wru64_u32 last)) ?_
  refine LW.e rfl (Ef.call (Rc.number B last.toUInt64 4 4 rfl (by omega)) Tryd.func54 rfl rfl rfl ?_)
  rintro _ _ ⟨rfl, rfl⟩
  try simp only [List.cons_append, List.nil_append]
  refine LW.q rfl (Qt.move rfl) ?_
  refine LW.q rfl (Qt.convI (by kernel_rfl) (by kernel_rfl) rfl (wru64_i64 _)) ?_
  refine LW.e rfl (Ef.call (Rc.number B (UInt64.ofInt at_) 8 8 rfl (by omega)) Tryd.func54 rfl rfl rfl ?_)
  rintro _ _ ⟨rfl, rfl⟩
  try simp only [List.cons_append, List.nil_append]
  refine LW.q rfl (Qt.addS rfl rfl (by simp [length_be])) ?_
  refine LW.q rfl (Qt.move rfl) ?_
  refine LW.q rfl (Qt.addS rfl rfl (by simp [length_be]; omega)) ?_
  refine LW.e rfl (Ef.call (Rc.sum B (be last.toUInt64 4 ++ be (UInt64.ofInt at_) 8 ++ d) (by simp [length_be]; omega)) Tryd.func55 rfl rfl rfl ?_)
  rintro _ _ ⟨rfl, rfl⟩
  try simp only [List.cons_append, List.nil_append]
  refine LW.q rfl (Qt.assign rfl) ?_
  refine LW.done ?_
  refine T.ret ?_
  exact ⟨.inl rfl, _, _, res [_] rfl ⟨rvT rfl, trivial⟩, ⟨rfl, rfl⟩, Sub.any⟩

set_option maxHeartbeats 1000000 in
set_option maxRecDepth 100000 in
theorem Rl.add (B : Base) (W : Wl) (d : List UInt8) (hcnt : W.count ≤ 4096) (hst : W.st.length ≤ W.count * 256) (hd : d.length < 2 ^ 31) : Fn Tryd.prog B 31 #[logV W, .string (strOf d)] [] (fun v l => v = .tuple #[logV (addW W d).1, .int .i64 (addW W d).2.2] ∧ l = []) := by
  refine Fn.enter2 50 Tryd.func31 rfl rfl (Nat.le_of_ble_eq_true rfl) (fun F => ?_)
  try simp only [List.cons_append, List.nil_append]
  refine T.seq ?_
  refine T.region ?_
  refine LW.e rfl (Ef.box [_, _, _, _, _] rfl rfl ?_)
  intro g2
  refine LW.e rfl (Ef.alloc [.string .empty, .int .u32 0, .int .i64 0, .int .i64 0, .int .i64 0] (by unfold zeroB; kernel_rfl) ?_)
  intro g4
  refine LW.q rfl (Qt.assign rfl) ?_
  refine LW.done ?_
  refine T.seq ?_
  refine T.seq ?_
  refine T.region ?_
  refine LW.q rfl (Qt.move rfl) ?_
  first | refine LW.q rfl (Qt.lenSt (by kernel_rfl) rfl) ?_ | refine LW.q rfl (Qt.lenS (by kernel_rfl) rfl) ?_
  refine LW.q rfl (Qt.eql rfl rfl) ?_
  refine LW.done ?_
  refine T.condP rfl (fun h0 => ?_) (fun h0 => ?_)
  · skip
    refine T.seq ?_
    refine T.region ?_
    first | refine LW.q rfl (Qt.loadAgg [_, _, _, _, _] (by kernel_rfl) rfl ⟨rfl, rfl, rfl, rfl, rfl, trivial⟩) ?_ | refine LW.q rfl (Qt.loadAgg [_, _, _, _, _] (by kernel_rfl) rfl (by exact rdl_flat _ _ _ (by intros; rfl) _ (by omega))) ?_
    refine LW.e0 rfl (Ef.store [_, _, _, _, _] (by kernel_rfl) rfl rfl rfl rfl (by simp) ?_)
    try simp only [splice, List.length_cons, List.length_nil, List.drop_succ_cons, List.cons_append, List.take_succ_cons, List.take_zero, List.drop_zero, List.nil_append, List.append_nil]
    refine LW.q rfl (Qt.assign rfl) ?_
    refine LW.done ?_
    refine T.ret ?_
    exact ⟨.inl rfl, _, _, res [_, _] rfl ⟨rvA [_, _, _, _, _] (by kernel_rfl) rfl ⟨rfl, rfl, rfl, rfl, rfl, trivial⟩, rvT rfl, trivial⟩, ⟨by unfold addW; rw [if_pos (by omega)]; rfl, rfl⟩, Sub.any⟩
  · skip
    refine T.skip ?_
    refine T.seq ?_
    refine T.seq ?_
    refine T.region ?_
    refine LW.q rfl (Qt.move rfl) ?_
    first | refine LW.q rfl (Qt.lenSt (by kernel_rfl) rfl) ?_ | refine LW.q rfl (Qt.lenS (by kernel_rfl) rfl) ?_
    refine LW.q rfl (Qt.gtr rfl rfl) ?_
    refine LW.done ?_
    refine T.condP rfl (fun h1 => ?_) (fun h1 => ?_)
    · skip
      refine T.seq ?_
      refine T.region ?_
      first | refine LW.q rfl (Qt.loadAgg [_, _, _, _, _] (by kernel_rfl) rfl ⟨rfl, rfl, rfl, rfl, rfl, trivial⟩) ?_ | refine LW.q rfl (Qt.loadAgg [_, _, _, _, _] (by kernel_rfl) rfl (by exact rdl_flat _ _ _ (by intros; rfl) _ (by omega))) ?_
      refine LW.e0 rfl (Ef.store [_, _, _, _, _] (by kernel_rfl) rfl rfl rfl rfl (by simp) ?_)
      try simp only [splice, List.length_cons, List.length_nil, List.drop_succ_cons, List.cons_append, List.take_succ_cons, List.take_zero, List.drop_zero, List.nil_append, List.append_nil]
      refine LW.q rfl (Qt.assign rfl) ?_
      refine LW.done ?_
      refine T.ret ?_
      exact ⟨.inl rfl, _, _, res [_, _] rfl ⟨rvA [_, _, _, _, _] (by kernel_rfl) rfl ⟨rfl, rfl, rfl, rfl, rfl, trivial⟩, rvT rfl, trivial⟩, ⟨by unfold addW; rw [if_neg (by omega), if_pos (by omega)]; rfl, rfl⟩, Sub.any⟩
    · skip
      refine T.skip ?_
      refine T.seq ?_
      refine T.seq ?_
      refine T.region ?_
      refine LW.q rfl (Qt.fieldAddr0 (by kernel_rfl) rfl) ?_
      first | refine LW.q rfl (Qt.load (by kernel_rfl) rfl rfl) ?_ | refine LW.q rfl (Qt.load (by kernel_rfl) rfl (map_at _ _ _ (by omega))) ?_ | refine LW.q rfl (Qt.load (by kernel_rfl) rfl (flat_cell0 _ _ _ (by intros; rfl) _ (by omega) (by rfl))) ?_ | refine LW.q rfl (Qt.load (by kernel_rfl) rfl (flat_cell _ _ _ (by intros; rfl) _ _ (by omega) (by rfl))) ?_ | refine LW.q rfl (Qt.load (by kernel_rfl) rfl (bytes_at _ _ (by omega))) ?_
      first | refine LW.q rfl (Qt.lenSt (by kernel_rfl) rfl) ?_ | refine LW.q rfl (Qt.lenS (by kernel_rfl) rfl) ?_
      refine LW.q rfl (Qt.add rfl rfl (wr64 (by omega) (by omega))) ?_
      refine LW.q rfl (Qt.move rfl) ?_
      first | refine LW.q rfl (Qt.lenSt (by kernel_rfl) rfl) ?_ | refine LW.q rfl (Qt.lenS (by kernel_rfl) rfl) ?_
      refine LW.q rfl (Qt.add rfl rfl (wr64 (by omega) (by omega))) ?_
      refine LW.q rfl (Qt.fieldAddr (off := 4) (by kernel_rfl) rfl) ?_
      first | refine LW.q rfl (Qt.load (by kernel_rfl) rfl rfl) ?_ | refine LW.q rfl (Qt.load (by kernel_rfl) rfl (map_at _ _ _ (by omega))) ?_ | refine LW.q rfl (Qt.load (by kernel_rfl) rfl (flat_cell0 _ _ _ (by intros; rfl) _ (by omega) (by rfl))) ?_ | refine LW.q rfl (Qt.load (by kernel_rfl) rfl (flat_cell _ _ _ (by intros; rfl) _ _ (by omega) (by rfl))) ?_ | refine LW.q rfl (Qt.load (by kernel_rfl) rfl (bytes_at _ _ (by omega))) ?_
      refine LW.q rfl (Qt.mul rfl rfl (wr64 (by omega) (by omega))) ?_
      refine LW.q rfl (Qt.gtr rfl rfl) ?_
      refine LW.done ?_
      refine T.condP rfl (fun h2 => ?_) (fun h2 => ?_)
      · skip
        refine T.seq ?_
        refine T.region ?_
        first | refine LW.q rfl (Qt.loadAgg [_, _, _, _, _] (by kernel_rfl) rfl ⟨rfl, rfl, rfl, rfl, rfl, trivial⟩) ?_ | refine LW.q rfl (Qt.loadAgg [_, _, _, _, _] (by kernel_rfl) rfl (by exact rdl_flat _ _ _ (by intros; rfl) _ (by omega))) ?_
        refine LW.e0 rfl (Ef.store [_, _, _, _, _] (by kernel_rfl) rfl rfl rfl rfl (by simp) ?_)
        try simp only [splice, List.length_cons, List.length_nil, List.drop_succ_cons, List.cons_append, List.take_succ_cons, List.take_zero, List.drop_zero, List.nil_append, List.append_nil]
        refine LW.q rfl (Qt.assign rfl) ?_
        refine LW.done ?_
        refine T.ret ?_
        exact ⟨.inl rfl, _, _, res [_, _] rfl ⟨rvA [_, _, _, _, _] (by kernel_rfl) rfl ⟨rfl, rfl, rfl, rfl, rfl, trivial⟩, rvT rfl, trivial⟩, ⟨by unfold addW; rw [if_neg (by omega), if_neg (by omega), if_pos (by omega)]; rfl, rfl⟩, Sub.any⟩
      · skip
        refine T.skip ?_
        refine T.seq ?_
        refine T.region ?_
        refine LW.q rfl (Qt.fieldAddr (off := 1) (by kernel_rfl) rfl) ?_
        first | refine LW.q rfl (Qt.load (by kernel_rfl) rfl rfl) ?_ | refine LW.q rfl (Qt.load (by kernel_rfl) rfl (map_at _ _ _ (by omega))) ?_ | refine LW.q rfl (Qt.load (by kernel_rfl) rfl (flat_cell0 _ _ _ (by intros; rfl) _ (by omega) (by rfl))) ?_ | refine LW.q rfl (Qt.load (by kernel_rfl) rfl (flat_cell _ _ _ (by intros; rfl) _ _ (by omega) (by rfl))) ?_ | refine LW.q rfl (Qt.load (by kernel_rfl) rfl (bytes_at _ _ (by omega))) ?_
        refine LW.q rfl (Qt.fieldAddr0 (by kernel_rfl) rfl) ?_
        first | refine LW.q rfl (Qt.load (by kernel_rfl) rfl rfl) ?_ | refine LW.q rfl (Qt.load (by kernel_rfl) rfl (map_at _ _ _ (by omega))) ?_ | refine LW.q rfl (Qt.load (by kernel_rfl) rfl (flat_cell0 _ _ _ (by intros; rfl) _ (by omega) (by rfl))) ?_ | refine LW.q rfl (Qt.load (by kernel_rfl) rfl (flat_cell _ _ _ (by intros; rfl) _ _ (by omega) (by rfl))) ?_ | refine LW.q rfl (Qt.load (by kernel_rfl) rfl (bytes_at _ _ (by omega))) ?_
        first | refine LW.q rfl (Qt.lenSt (by kernel_rfl) rfl) ?_ | refine LW.q rfl (Qt.lenS (by kernel_rfl) rfl) ?_
        refine LW.q rfl (Qt.move rfl) ?_
        refine LW.e rfl (Ef.call (Rl.shut B W.sum W.st.length d hd) Tryd.func67 rfl rfl rfl ?_)
        rintro _ _ ⟨rfl, rfl⟩
        try simp only [List.cons_append, List.nil_append]
        obtain ⟨s, hs⟩ : ∃ s, sealW W.sum W.st.length d = s := ⟨_, rfl⟩
        rw [hs]
        refine LW.q rfl (Qt.fieldAddr (off := 1) (by kernel_rfl) rfl) ?_
        refine LW.e0 rfl (Ef.store1 (by kernel_rfl) rfl rfl rfl (by first | (simp; done) | (simp; omega)) ?_)
        try simp only [List.set_cons_zero, List.set_cons_succ]
        refine LW.done ?_
        refine T.seq ?_
        refine T.drawBl 14 none (by kernel_rfl) (Nat.le_of_ble_eq_true rfl) (by kernel_rfl) ?_
        refine RW.q 0 rfl rfl (by kernel_rfl) Sub.any (Qt.fieldAddr0 (by kernel_rfl) rfl) ?_
        first | refine RW.q 1 rfl rfl (by kernel_rfl) Sub.any (Qt.load (by kernel_rfl) rfl rfl) ?_ | refine RW.q 1 rfl rfl (by kernel_rfl) Sub.any (Qt.load (by kernel_rfl) rfl (map_at _ _ _ (by omega))) ?_ | refine RW.q 1 rfl rfl (by kernel_rfl) Sub.any (Qt.load (by kernel_rfl) rfl (flat_cell0 _ _ _ (by intros; rfl) _ (by omega) (by rfl))) ?_ | refine RW.q 1 rfl rfl (by kernel_rfl) Sub.any (Qt.load (by kernel_rfl) rfl (flat_cell _ _ _ (by intros; rfl) _ _ (by omega) (by rfl))) ?_ | refine RW.q 1 rfl rfl (by kernel_rfl) Sub.any (Qt.load (by kernel_rfl) rfl (bytes_at _ _ (by omega))) ?_
        refine RW.q 2 rfl rfl (by kernel_rfl) Sub.any (Qt.move rfl) ?_
        first | refine RW.q 3 rfl rfl (by kernel_rfl) Sub.any (Qt.lenSt (by kernel_rfl) rfl) ?_ | refine RW.q 3 rfl rfl (by kernel_rfl) Sub.any (Qt.lenS (by kernel_rfl) rfl) ?_
        refine RW.q 4 rfl rfl (by kernel_rfl) Sub.any (Qt.convI (by kernel_rfl) (by kernel_rfl) rfl (wru64_i64 _)) ?_
        refine RW.q 6 rfl rfl (by kernel_rfl) Sub.any (Qt.fieldAddr (off := 1) (by kernel_rfl) rfl) ?_
        first | refine RW.q 7 rfl rfl (by kernel_rfl) Sub.any (Qt.load (by kernel_rfl) rfl rfl) ?_ | refine RW.q 7 rfl rfl (by kernel_rfl) Sub.any (Qt.load (by kernel_rfl) rfl (map_at _ _ _ (by omega))) ?_ | refine RW.q 7 rfl rfl (by kernel_rfl) Sub.any (Qt.load (by kernel_rfl) rfl (flat_cell0 _ _ _ (by intros; rfl) _ (by omega) (by rfl))) ?_ | refine RW.q 7 rfl rfl (by kernel_rfl) Sub.any (Qt.load (by kernel_rfl) rfl (flat_cell _ _ _ (by intros; rfl) _ _ (by omega) (by rfl))) ?_ | refine RW.q 7 rfl rfl (by kernel_rfl) Sub.any (Qt.load (by kernel_rfl) rfl (bytes_at _ _ (by omega))) ?_
        refine RW.q 8 rfl rfl (by kernel_rfl) Sub.any (Qt.convI (by kernel_rfl) (by kernel_rfl) rfl (wru64_u32 s)) ?_
        refine RW.q 11 rfl rfl (by kernel_rfl) Sub.any (Qt.move rfl) ?_
        refine RW.one 5 (by kernel_rfl) ?_
        refine RO.eS rfl rfl (Ef.call (Rc.number B (UInt64.ofInt d.length) 4 4 rfl (by omega)) Tryd.func54 rfl rfl rfl ?_)
        rintro _ _ ⟨rfl, rfl⟩
        try simp only [List.cons_append, List.nil_append]
        refine ⟨Sub.any, ?_⟩
        refine RW.one 9 (by kernel_rfl) ?_
        refine RO.eS rfl rfl (Ef.call (Rc.number B s.toUInt64 4 4 rfl (by omega)) Tryd.func54 rfl rfl rfl ?_)
        rintro _ _ ⟨rfl, rfl⟩
        try simp only [List.cons_append, List.nil_append]
        refine ⟨Sub.any, ?_⟩
        refine RW.q 10 rfl rfl (by kernel_rfl) Sub.any (Qt.addS rfl rfl (by simp [length_be])) ?_
        refine RW.q 12 rfl rfl (by kernel_rfl) Sub.any (Qt.addS rfl rfl (by simp [length_be]; omega)) ?_
        refine RW.q 13 rfl rfl (by kernel_rfl) Sub.any (Qt.addS rfl rfl (by simp [length_be]; omega)) ?_
        refine RW.done (by rfl) ?_
        simp only [List.drop_succ_cons, List.drop_zero, List.drop_nil]
        refine LW.q rfl (Qt.fieldAddr0 (by kernel_rfl) rfl) ?_
        refine LW.e0 rfl (Ef.store1 (by kernel_rfl) rfl rfl rfl (by first | (simp; done) | (simp; omega)) ?_)
        try simp only [List.set_cons_zero, List.set_cons_succ]
        refine LW.done ?_
        refine T.seq ?_
        refine T.region ?_
        first | refine LW.q rfl (Qt.loadAgg [_, _, _, _, _] (by kernel_rfl) rfl ⟨rfl, rfl, rfl, rfl, rfl, trivial⟩) ?_ | refine LW.q rfl (Qt.loadAgg [_, _, _, _, _] (by kernel_rfl) rfl (by exact rdl_flat _ _ _ (by intros; rfl) _ (by omega))) ?_
        refine LW.e0 rfl (Ef.store [_, _, _, _, _] (by kernel_rfl) rfl rfl rfl rfl (by simp) ?_)
        try simp only [splice, List.length_cons, List.length_nil, List.drop_succ_cons, List.cons_append, List.take_succ_cons, List.take_zero, List.drop_zero, List.nil_append, List.append_nil]
        refine LW.q rfl (Qt.assign rfl) ?_
        refine LW.done ?_
        refine T.ret ?_
        exact ⟨.inl rfl, _, _, res [_, _] rfl ⟨rvA [_, _, _, _, _] (by kernel_rfl) rfl ⟨rfl, rfl, rfl, rfl, rfl, trivial⟩, rvT rfl, trivial⟩, ⟨by unfold addW; rw [if_neg (by omega), if_neg (by omega), if_neg (by omega), hs, List.append_assoc, List.append_assoc, List.append_assoc]; rfl, rfl⟩, Sub.any⟩

theorem secW_pad {st : List UInt8} {j m : Nat} (h : (j + 1) * 256 ≤ st.length + m) : ((st ++ List.replicate m 0).take ((j + 1) * 256)).drop (j * 256) = secW st j := by
  unfold secW
  rw [List.drop_take, List.drop_append, List.take_append, List.drop_replicate, List.take_replicate, show (j + 1) * 256 - j * 256 = 256 by omega]
  congr 2
  simp only [List.length_take, List.length_drop]
  omega
set_option maxHeartbeats 1000000 in
set_option maxRecDepth 100000 in
theorem Rl.sector (B : Base) (W : Wl) (n : Nat) (i : Int) (hi : i = n) (hn : n < 4096) (hst : W.st.length < 2 ^ 31) : Fn Tryd.prog B 66 #[logV W, .int .i64 i] [] (fun v l => v = .string (strOf (secW W.st n)) ∧ l = []) := by
  subst hi
  have hz : zs.length = 256 := by simp [zs]
  refine Fn.enter2 25 Tryd.func66 rfl rfl (Nat.le_of_ble_eq_true rfl) (fun F => ?_)
  try simp only [List.cons_append, List.nil_append]
  refine T.seq ?_
  refine T.region ?_
  refine LW.e rfl (Ef.box [_, _, _, _, _] rfl rfl ?_)
  intro g2
  refine LW.q rfl (Qt.assign rfl) ?_
  refine LW.done ?_
  refine T.seq ?_
  refine T.region ?_
  refine LW.q rfl (Qt.fieldAddr0 (by kernel_rfl) rfl) ?_
  first | refine LW.q rfl (Qt.load (by kernel_rfl) rfl rfl) ?_ | refine LW.q rfl (Qt.load (by kernel_rfl) rfl (map_at _ _ _ (by omega))) ?_ | refine LW.q rfl (Qt.load (by kernel_rfl) rfl (flat_cell0 _ _ _ (by intros; rfl) _ (by omega) (by rfl))) ?_ | refine LW.q rfl (Qt.load (by kernel_rfl) rfl (flat_cell _ _ _ (by intros; rfl) _ _ (by omega) (by rfl))) ?_ | refine LW.q rfl (Qt.load (by kernel_rfl) rfl (bytes_at _ _ (by omega))) ?_
  refine LW.q rfl (Qt.assign rfl) ?_
  refine LW.done ?_
  refine T.seq ?_
  refine T.block ?_
  refine T.loop (fun mz fz lz => ∃ (f0 : Fr) (m : Nat) (s : List UInt8), (s = W.st ++ List.replicate m 0 ∧ (m = 0 ∨ W.st.length + m < (n + 1) * 256 + 256)) ∧ mz = (n + 1) * 256 - s.length ∧ fz = (upd (upd f0 1 (.int .i64 n)) 5 (.string (strOf s))) ∧ lz = F) ?_ ?_
  · refine ⟨_, _, ⟨_, 0, W.st, ⟨by simp, .inl rfl⟩, rfl, (updS rfl (updS rfl rfl)), rfl⟩, Sub.any⟩
  · skip
    rintro mz fz lz ⟨f0, m, s, ⟨hs, hm⟩, hmz, rfl, rfl⟩
    subst mz
    try simp only [List.cons_append, List.nil_append]
    have hsl : s.length = W.st.length + m := by rw [hs]; simp
    refine T.seq ?_
    refine T.seq ?_
    refine T.region ?_
    refine LW.q rfl (Qt.move rfl) ?_
    first | refine LW.q rfl (Qt.lenSt (by kernel_rfl) rfl) ?_ | refine LW.q rfl (Qt.lenS (by kernel_rfl) rfl) ?_
    refine LW.q rfl (Qt.move rfl) ?_
    refine LW.q rfl (Qt.add rfl rfl (wr64 (by omega) (by omega))) ?_
    refine LW.q rfl (Qt.mul rfl rfl (wr64 (by omega) (by omega))) ?_
    refine LW.q rfl (Qt.lss rfl rfl) ?_
    refine LW.done ?_
    refine T.condP rfl (fun hlt => ?_) (fun hlt => ?_)
    · skip
      refine T.skip ?_
      refine T.block ?_
      refine T.region ?_
      refine LW.q rfl (Qt.move rfl) ?_
      refine LW.e rfl (Ef.make 256 (.int .u8 0) 1 Cd.elemB (by kernel_rfl) rfl rfl rfl rfl (by omega) (by unfold maxLen; omega) ?_)
      rintro g15
      try simp only [List.cons_append, List.nil_append]
      rw [made_zs]
      refine LW.q rfl (Qt.str zs (by kernel_rfl) (by kernel_rfl) rfl (fun _ ho => ho.reads_row hz)) ?_
      refine LW.q rfl (Qt.addS rfl rfl (by rw [hz]; omega)) ?_
      refine LW.q rfl (Qt.assign rfl) ?_
      refine LW.done ?_
      refine ⟨_, ?_, _, ⟨_, m + 256, s ++ zs, ⟨by rw [hs, List.append_assoc, show zs = List.replicate 256 0 from rfl, List.replicate_append_replicate], by omega⟩, rfl, (updS rfl (updS rfl rfl)), rfl⟩, Sub.any⟩
      first | omega | (simp; omega)
    · skip
      refine T.exit ?_
      refine T.seq ?_
      refine T.region ?_
      refine LW.q rfl (Qt.move rfl) ?_
      refine LW.q rfl (Qt.move rfl) ?_
      refine LW.q rfl (Qt.mul rfl rfl (wr64 (by omega) (by omega))) ?_
      refine LW.q rfl (Qt.move rfl) ?_
      refine LW.q rfl (Qt.add rfl rfl (wr64 (by omega) (by omega))) ?_
      refine LW.q rfl (Qt.mul rfl rfl (wr64 (by omega) (by omega))) ?_
      refine LW.q rfl (Qt.sliceS (n * 256) ((n + 1) * 256) (secW W.st n) (by kernel_rfl) rfl rfl rfl (by omega) (by omega) (by omega) (by omega) (by rw [hs]; exact secW_pad (by omega))) ?_
      refine LW.q rfl (Qt.assign rfl) ?_
      refine LW.done ?_
      refine T.ret ?_
      exact ⟨.inl rfl, _, _, res [_] rfl ⟨rvT rfl, trivial⟩, ⟨rfl, rfl⟩, Sub.any⟩
end Go.Proofs.YtjjhbpjbngdlnaaDoor
