/- The statement DiskPlays returns true. Condition: the script's length. -/
import Derived.Test.YtdjfibkpmmcefaaRfF
namespace Go.Proofs.Ytdjfibkpmmcefaa
open Go.RowKit

/-- A slice of calls that lies in memory that is only read. -/
def RoL (B : Base) (v : Value) (l : List OpD) : Prop := ∃ a cap, v = .slice a l.length cap ∧ (l = [] ∨ ∃ b o C, a = some ⟨b, o, none⟩ ∧ ROc B b C ∧
  ∀ i (hi : i < l.length), ∃ da dc ka kc, rdl C (o + i * 6) [.int .i64 l[i].kind, .int .i64 l[i].at_, .slice da l[i].data.length dc, .slice ka l[i].keep.length kc, .int .i64 l[i].t0, .int .i64 l[i].t1] ∧ RoS B (.slice da l[i].data.length dc) (bytesV l[i].data) ∧ RoS B (.slice ka l[i].keep.length kc) (boolsV l[i].keep))

set_option maxHeartbeats 1000000 in
set_option maxRecDepth 100000 in
theorem Rf.plays_no (B : Base) (n : Int) (sv : Value) (h : n < 1 ∨ 4096 < n) : Fn Try.prog B 6 #[.int .i64 n, sv] [] (fun v l => v = .bool true ∧ l = []) := by
  refine Fn.enter2 69 Try.func6 rfl rfl (Nat.le_of_ble_eq_true rfl) (fun F => ?_)
  try simp only [List.cons_append, List.nil_append]
  refine T.seq ?_
  refine T.region ?_
  refine LW.q rfl (Qt.assign rfl) ?_
  refine LW.done ?_
  refine T.seq ?_
  refine T.seq ?_
  refine T.region ?_
  refine LW.e rfl (Ef.call (Dk.awakeF B) Try.func10 rfl rfl rfl ?_)
  rintro _ _ ⟨rfl, rfl⟩
  try simp only [List.cons_append, List.nil_append]
  first | refine LW.q rfl (Qt.notP rfl) ?_ | refine LW.q rfl (Qt.notB rfl) ?_
  refine LW.done ?_
  first | refine T.condF rfl ?_ | refine T.condPF rfl (by omega) ?_ | refine T.condBF rfl (by omega) ?_
  refine T.skip ?_
  refine T.seq ?_
  refine T.region ?_
  refine LW.q rfl (Qt.move rfl) ?_
  refine LW.e rfl (Ef.call (Dk.newF_no B n h) Try.func11 rfl rfl rfl ?_)
  rintro _ _ ⟨rfl, rfl⟩
  try simp only [List.cons_append, List.nil_append]
  refine LW.q rfl (Qt.move rfl) ?_
  refine LW.q rfl (Qt.extract rfl rfl) ?_
  refine LW.q rfl (Qt.extract rfl rfl) ?_
  refine LW.q rfl (Qt.assign rfl) ?_
  refine LW.q rfl (Qt.assign rfl) ?_
  refine LW.done ?_
  refine T.seq ?_
  refine T.region ?_
  refine LW.q rfl (Qt.move rfl) ?_
  refine LW.e rfl (Ef.call (Rf.new_no B n h) Try.func17 rfl rfl rfl ?_)
  rintro _ _ ⟨rfl, rfl⟩
  try simp only [List.cons_append, List.nil_append]
  refine LW.q rfl (Qt.move rfl) ?_
  refine LW.q rfl (Qt.extract rfl rfl) ?_
  refine LW.q rfl (Qt.extract rfl rfl) ?_
  refine LW.e rfl (Ef.alloc [.slice none 0 0, .slice none 0 0] (by unfold zeroB; kernel_rfl) ?_)
  intro g7
  refine LW.e0 rfl (Ef.store [_, _] (by kernel_rfl) rfl rfl rfl rfl (by simp) ?_)
  try simp only [splice, List.length_cons, List.length_nil, List.drop_succ_cons, List.cons_append, List.take_succ_cons, List.take_zero, List.drop_zero, List.nil_append, List.append_nil]
  refine LW.q rfl (Qt.assign rfl) ?_
  refine LW.done ?_
  refine T.seq ?_
  refine T.seq ?_
  refine T.region ?_
  refine LW.q rfl (Qt.move rfl) ?_
  refine LW.q rfl (Qt.move rfl) ?_
  refine LW.q rfl (Qt.neq rfl rfl) ?_
  refine LW.q rfl (Qt.move rfl) ?_
  first | refine LW.gF (t := 28) rfl rfl ?_ | refine LW.gF (t := 28) rfl (decide_eq_false (by omega)) ?_ | refine LW.gF (t := 28) rfl (by omega) ?_
  refine LW.q rfl (Qt.move rfl) ?_
  first | refine LW.q rfl (Qt.eqlNil (by kernel_rfl) rfl rfl) ?_ | refine LW.q rfl (Qt.eqlNN (by kernel_rfl) rfl rfl) ?_
  refine LW.q rfl (Qt.move rfl) ?_
  refine LW.q rfl (Qt.neq rfl rfl) ?_
  refine LW.q rfl (Qt.neqB (by kernel_rfl) rfl rfl) ?_
  refine LW.q rfl (Qt.pick rfl rfl) ?_
  refine LW.done ?_
  first | refine T.condF rfl ?_ | refine T.condPF rfl (by omega) ?_ | refine T.condBF rfl (by omega) ?_
  refine T.skip ?_
  refine T.seq ?_
  refine T.seq ?_
  refine T.region ?_
  refine LW.q rfl (Qt.move rfl) ?_
  first | refine LW.q rfl (Qt.eqlNil (by kernel_rfl) rfl rfl) ?_ | refine LW.q rfl (Qt.eqlNN (by kernel_rfl) rfl rfl) ?_
  refine LW.done ?_
  first | refine T.condT rfl ?_ | refine T.condPT rfl (by omega) ?_ | refine T.condBT rfl (by omega) ?_
  refine T.seq ?_
  refine T.region ?_
  refine LW.q rfl (Qt.assign rfl) ?_
  refine LW.done ?_
  refine T.ret ?_
  exact ⟨.inl rfl, _, _, res [_] rfl ⟨rvT rfl, trivial⟩, ⟨rfl, rfl⟩, Sub.any⟩

set_option maxHeartbeats 1000000 in
set_option maxRecDepth 100000 in
theorem Rf.plays (B : Base) (n : Nat) (sv : Value) (script : List OpD) (h1 : 1 ≤ n) (h2 : n ≤ 4096) (hs : RoL B sv script) (hl : script.length ≤ 1048576) : Fn Try.prog B 6 #[.int .i64 n, sv] [] (fun v l => v = .bool true ∧ l = []) := by
  obtain ⟨sa, sc, rfl, hsc⟩ := hs
  refine Fn.enter2 69 Try.func6 rfl rfl (Nat.le_of_ble_eq_true rfl) (fun F => ?_)
  try simp only [List.cons_append, List.nil_append]
  refine T.seq ?_
  refine T.region ?_
  refine LW.q rfl (Qt.assign rfl) ?_
  refine LW.done ?_
  refine T.seq ?_
  refine T.seq ?_
  refine T.region ?_
  refine LW.e rfl (Ef.call (Dk.awakeF B) Try.func10 rfl rfl rfl ?_)
  rintro _ _ ⟨rfl, rfl⟩
  try simp only [List.cons_append, List.nil_append]
  first | refine LW.q rfl (Qt.notP rfl) ?_ | refine LW.q rfl (Qt.notB rfl) ?_
  refine LW.done ?_
  first | refine T.condF rfl ?_ | refine T.condPF rfl (by omega) ?_ | refine T.condBF rfl (by omega) ?_
  refine T.skip ?_
  refine T.seq ?_
  refine T.region ?_
  refine LW.q rfl (Qt.move rfl) ?_
  refine LW.e rfl (Ef.call (Dk.newF B n _ rfl h1 h2) Try.func11 rfl rfl rfl ?_)
  rintro _ _ ⟨b0, rfl, rfl⟩
  try simp only [List.cons_append, List.nil_append]
  refine LW.q rfl (Qt.move rfl) ?_
  refine LW.q rfl (Qt.extract rfl rfl) ?_
  refine LW.q rfl (Qt.extract rfl rfl) ?_
  refine LW.q rfl (Qt.assign rfl) ?_
  refine LW.q rfl (Qt.assign rfl) ?_
  refine LW.done ?_
  refine T.seq ?_
  refine T.region ?_
  refine LW.q rfl (Qt.move rfl) ?_
  refine LW.e rfl (Ef.call (Rf.new B n h1 h2) Try.func17 rfl rfl rfl ?_)
  rintro _ _ ⟨p0, c0, q0, d0, rfl, rfl⟩
  try simp only [List.cons_append, List.nil_append]
  refine LW.q rfl (Qt.move rfl) ?_
  refine LW.q rfl (Qt.extract rfl rfl) ?_
  refine LW.q rfl (Qt.extract rfl rfl) ?_
  refine LW.e rfl (Ef.alloc [.slice none 0 0, .slice none 0 0] (by unfold zeroB; kernel_rfl) ?_)
  intro g7
  refine LW.e0 rfl (Ef.store [_, _] (by kernel_rfl) rfl rfl rfl rfl (by simp) ?_)
  try simp only [splice, List.length_cons, List.length_nil, List.drop_succ_cons, List.cons_append, List.take_succ_cons, List.take_zero, List.drop_zero, List.nil_append, List.append_nil]
  refine LW.q rfl (Qt.assign rfl) ?_
  refine LW.done ?_
  refine T.seq ?_
  refine T.seq ?_
  refine T.region ?_
  refine LW.q rfl (Qt.move rfl) ?_
  refine LW.q rfl (Qt.move rfl) ?_
  refine LW.q rfl (Qt.neq rfl rfl) ?_
  refine LW.q rfl (Qt.move rfl) ?_
  first | refine LW.gF (t := 28) rfl rfl ?_ | refine LW.gF (t := 28) rfl (decide_eq_false (by omega)) ?_ | refine LW.gF (t := 28) rfl (by omega) ?_
  refine LW.q rfl (Qt.move rfl) ?_
  first | refine LW.q rfl (Qt.eqlNil (by kernel_rfl) rfl rfl) ?_ | refine LW.q rfl (Qt.eqlNN (by kernel_rfl) rfl rfl) ?_
  refine LW.q rfl (Qt.move rfl) ?_
  refine LW.q rfl (Qt.neq rfl rfl) ?_
  refine LW.q rfl (Qt.neqB (by kernel_rfl) rfl rfl) ?_
  refine LW.q rfl (Qt.pick rfl rfl) ?_
  refine LW.done ?_
  first | refine T.condF rfl ?_ | refine T.condPF rfl (by omega) ?_ | refine T.condBF rfl (by omega) ?_
  refine T.skip ?_
  refine T.seq ?_
  refine T.seq ?_
  refine T.region ?_
  refine LW.q rfl (Qt.move rfl) ?_
  first | refine LW.q rfl (Qt.eqlNil (by kernel_rfl) rfl rfl) ?_ | refine LW.q rfl (Qt.eqlNN (by kernel_rfl) rfl rfl) ?_
  refine LW.done ?_
  first | refine T.condF rfl ?_ | refine T.condPF rfl (by omega) ?_ | refine T.condBF rfl (by omega) ?_
  refine T.own (fun w ho => ?_)
  have hok : (DD.mk (List.replicate n zs) []).Ok := by obtain ⟨_, _, _, _, _, h⟩ := (ho.take (A := dskA b0 ⟨List.replicate n zs, []⟩)).disk; exact h.ok
  clear ho
  refine T.skip ?_
  refine T.seq ?_
  refine T.region ?_
  refine LW.q rfl (Qt.assign rfl) ?_
  refine LW.done ?_
  refine T.seq ?_
  refine T.seq ?_
  refine T.region ?_
  refine LW.q rfl (Qt.move rfl) ?_
  refine LW.q rfl (Qt.len (e := 47) (sz := 6) (by kernel_rfl) rfl) ?_
  refine LW.q rfl (Qt.move rfl) ?_
  refine LW.done ?_
  refine T.block ?_
  refine T.loop (fun mz fz lz => ∃ (f0 : Fr) (k b ns : Nat) (D : DD) (p q : Option Addr) (a c m : Nat), (k ≤ script.length ∧ D.Ok ∧ m ≤ k ∧ ns = D.secs.length ∧ m = D.pend.length) ∧ mz = script.length - k ∧ fz = (upd (upd (upd (upd (upd f0 5 (.pointer (some ⟨b, 0, none⟩))) 7 (.pointer (some ⟨g7, 0, none⟩))) 37 (.slice sa script.length sc)) 38 (.int .i64 script.length)) 39 (.int .i64 k)) ∧ lz = [dskA b D, blk g7 [.slice p ns a, .slice q m c] 41, rS (.slice p ns a) ns D.secs, rW (.slice q m c) m D.pend] ++ F) ?_ ?_
  · refine ⟨_, _, ⟨_, 0, b0, n, ⟨List.replicate n zs, []⟩, p0, q0, c0, d0, 0, ⟨Nat.zero_le _, hok, Nat.le_refl _, by simp, rfl⟩, rfl, (updS rfl (updS rfl (updS rfl (updS rfl (updS rfl rfl))))), rfl⟩, Sub.any⟩
  · skip
    rintro mz fz lz ⟨f0, k, b, ns, D, p, q, a, c, m, ⟨hk, hD, hm, hns, hmp⟩, rfl, rfl, rfl⟩
    try simp only [List.cons_append, List.nil_append]
    refine T.seq ?_
    refine T.region ?_
    refine LW.q rfl (Qt.lss rfl rfl) ?_
    refine LW.done ?_
    refine T.seq ?_
    refine T.condP rfl (fun hlt => ?_) (fun hlt => ?_)
    · skip
      obtain ⟨kb, ko, C, rfl, hro, hC⟩ := hsc.resolve_left (by intro e; rw [e] at hlt; simp at hlt; omega)
      obtain ⟨da, dc, ka, kc, hrd, hdv, hkv⟩ := hC k (by omega)
      subst hns
      subst hmp
      refine T.skip ?_
      refine T.seq ?_
      refine T.block ?_
      refine T.seq ?_
      refine T.region ?_
      refine LW.q rfl (Qt.index _ (e := 47) (sz := 6) (by kernel_rfl) rfl rfl rfl (by omega)) ?_
      refine LW.q rfl (Qt.loadAgg [_, _, _, _, _, _] (by kernel_rfl) rfl hrd) ?_
      refine LW.e rfl (Ef.alloc [.int .i64 0, .int .i64 0, .slice none 0 0, .slice none 0 0, .int .i64 0, .int .i64 0] (by unfold zeroB; kernel_rfl) ?_)
      intro g11
      refine LW.e0 rfl (Ef.store [_, _, _, _, _, _] (by kernel_rfl) rfl rfl rfl rfl (by simp) ?_)
      try simp only [splice, List.length_cons, List.length_nil, List.drop_succ_cons, List.cons_append, List.take_succ_cons, List.take_zero, List.drop_zero, List.nil_append, List.append_nil]
      refine LW.done ?_
      refine T.seq ?_
      refine T.seq ?_
      refine T.region ?_
      refine LW.q rfl (Qt.fieldAddr0 (by kernel_rfl) rfl) ?_
      first | refine LW.q rfl (Qt.load (by kernel_rfl) rfl rfl) ?_ | refine LW.q rfl (Qt.load (by kernel_rfl) rfl (map_at _ _ _ (by omega))) ?_ | refine LW.q rfl (Qt.load (by kernel_rfl) rfl (flat_cell0 _ _ _ (by intros; rfl) _ (by omega) (by rfl))) ?_ | refine LW.q rfl (Qt.load (by kernel_rfl) rfl (flat_cell _ _ _ (by intros; rfl) _ _ (by omega) (by rfl))) ?_ | refine LW.q rfl (Qt.load (by kernel_rfl) rfl (bytes_at _ _ (by omega))) ?_
      refine LW.q rfl (Qt.eql rfl rfl) ?_
      refine LW.done ?_
      refine T.condP rfl (fun hf => ?_) (fun hf => ?_)
      · skip
        refine T.seq ?_
        refine T.region ?_
        refine LW.q rfl (Qt.move rfl) ?_
        refine LW.q rfl (Qt.assign rfl) ?_
        refine LW.done ?_
        refine T.seq ?_
        refine T.region ?_
        refine LW.q rfl (Qt.move rfl) ?_
        refine LW.e rfl (Ef.call (Dk.forkF B b D (by omega)) Try.func18 rfl rfl rfl ?_)
        rintro _ _ ⟨b', rfl, rfl⟩
        try simp only [List.cons_append, List.nil_append]
        refine LW.q rfl (Qt.assign rfl) ?_
        refine LW.done ?_
        refine T.seq ?_
        refine T.seq ?_
        refine T.region ?_
        refine LW.q rfl (Qt.move rfl) ?_
        first | refine LW.q rfl (Qt.eqlNil (by kernel_rfl) rfl rfl) ?_ | refine LW.q rfl (Qt.eqlNN (by kernel_rfl) rfl rfl) ?_
        refine LW.done ?_
        first | refine T.condF rfl ?_ | refine T.condPF rfl (by omega) ?_ | refine T.condBF rfl (by omega) ?_
        refine T.skip ?_
        refine T.seq ?_
        refine T.region ?_
        refine LW.q rfl (Qt.move rfl) ?_
        refine LW.e rfl (Ef.call (Dk.fullF B 1 _ rfl) Try.func15 rfl rfl rfl ?_)
        rintro _ _ ⟨gf, rfl, rfl⟩
        try simp only [List.cons_append, List.nil_append]
        refine LW.e rfl (Ef.call (Dk.writeF B b D (blk gf (bytesV (sect 1)) 5) gf 0 256 0 _ rfl (sect 1) (fun h k => blk_bytes h k) hD.pos (by simp [sect]) (by omega)) Try.func12 rfl rfl rfl ?_)
        rintro _ _ ⟨rfl, rfl⟩
        try simp only [List.cons_append, List.nil_append]
        refine LW.done ?_
        refine T.seq ?_
        refine T.region ?_
        refine LW.q rfl (Qt.move rfl) ?_
        refine LW.e rfl (Ef.call (Dk.syncF B b (D.write 0 (sect 1)) (by simp [DD.write]; omega)) Try.func16 rfl rfl rfl ?_)
        rintro _ _ ⟨rfl, rfl⟩
        try simp only [List.cons_append, List.nil_append]
        refine LW.done ?_
        refine T.exit ?_
        refine T.region ?_
        refine LW.q rfl (Qt.add rfl rfl (wr64 (by omega) (by omega))) ?_
        refine LW.q rfl (Qt.move rfl) ?_
        refine LW.done ?_
        refine ⟨_, ?_, _, ⟨_, k + 1, b', D.secs.length, D, p, q, a, c, D.pend.length, ⟨by omega, hD, by omega, rfl, rfl⟩, rfl, (updS rfl (updS rfl (updS rfl (updS rfl (updS rfl rfl))))), rfl⟩, Sub.any⟩
        first | omega | (simp; omega)
      · skip
        refine T.skip ?_
        refine T.seq ?_
        refine T.region ?_
        refine LW.q rfl (Qt.move rfl) ?_
        first | refine LW.q rfl (Qt.loadAgg [_, _] (by kernel_rfl) rfl ⟨rfl, rfl, trivial⟩) ?_ | refine LW.q rfl (Qt.loadAgg [_, _] (by kernel_rfl) rfl (by exact rdl_flat _ _ _ (by intros; rfl) _ (by omega))) ?_
        first | refine LW.q rfl (Qt.loadAgg [_, _, _, _, _, _] (by kernel_rfl) rfl ⟨rfl, rfl, rfl, rfl, rfl, rfl, trivial⟩) ?_ | refine LW.q rfl (Qt.loadAgg [_, _, _, _, _, _] (by kernel_rfl) rfl (by exact rdl_flat _ _ _ (by intros; rfl) _ (by omega))) ?_
        refine LW.e rfl (Ef.call (Rf.step B b D p q a c script[k] _ _ hdv hkv hD (by omega)) Try.func19 rfl rfl rfl ?_)
        rintro _ _ ⟨D', p', q', a', c', rfl, hD', hpl, rfl⟩
        try simp only [List.cons_append, List.nil_append]
        refine LW.q rfl (Qt.move rfl) ?_
        refine LW.q rfl (Qt.extract rfl rfl) ?_
        refine LW.q rfl (Qt.extract rfl rfl) ?_
        refine LW.e0 rfl (Ef.store [_, _] (by kernel_rfl) rfl rfl rfl rfl (by simp) ?_)
        try simp only [splice, List.length_cons, List.length_nil, List.drop_succ_cons, List.cons_append, List.take_succ_cons, List.take_zero, List.drop_zero, List.nil_append, List.append_nil]
        refine LW.q rfl (Qt.assign rfl) ?_
        refine LW.done ?_
        refine T.seq ?_
        refine T.region ?_
        refine LW.q rfl (Qt.move rfl) ?_
        first | refine LW.q rfl (Qt.notP rfl) ?_ | refine LW.q rfl (Qt.notB rfl) ?_
        refine LW.done ?_
        first | refine T.condF rfl ?_ | refine T.condPF rfl (by omega) ?_ | refine T.condBF rfl (by omega) ?_
        refine T.skip ?_
        refine T.region ?_
        refine LW.q rfl (Qt.add rfl rfl (wr64 (by omega) (by omega))) ?_
        refine LW.q rfl (Qt.move rfl) ?_
        refine LW.done ?_
        refine ⟨_, ?_, _, ⟨_, k + 1, b, D'.secs.length, D', p', q', a', c', D'.pend.length, ⟨by omega, hD', by omega, rfl, rfl⟩, rfl, (updS rfl (updS rfl (updS rfl (updS rfl (updS rfl rfl))))), rfl⟩, Sub.any⟩
        first | omega | (simp; omega)
    · skip
      subst hns
      subst hmp
      refine T.exit ?_
      refine T.seq ?_
      refine T.region ?_
      refine LW.q rfl (Qt.move rfl) ?_
      first | refine LW.q rfl (Qt.loadAgg [_, _] (by kernel_rfl) rfl ⟨rfl, rfl, trivial⟩) ?_ | refine LW.q rfl (Qt.loadAgg [_, _] (by kernel_rfl) rfl (by exact rdl_flat _ _ _ (by intros; rfl) _ (by omega))) ?_
      refine LW.e rfl (Ef.call (Rf.looks B b D p q a c hD (by omega)) Try.func20 rfl rfl rfl ?_)
      rintro _ _ ⟨rfl, rfl⟩
      try simp only [List.cons_append, List.nil_append]
      refine LW.q rfl (Qt.assign rfl) ?_
      refine LW.done ?_
      refine T.ret ?_
      exact ⟨.inl rfl, _, _, res [_] rfl ⟨rvT rfl, trivial⟩, ⟨rfl, rfl⟩, Sub.any⟩
end Go.Proofs.Ytdjfibkpmmcefaa
