/- The statement DiskPlays: its function step. Conditions: sizes. -/
import Derived.Test.YtdjfibkpmmcefaaRfE
import Derived.Test.YtdjfibkpmmcefaaOpRd
namespace Go.Proofs.Ytdjfibkpmmcefaa
open Go.RowKit

def StepR (b : Nat) (D : DD) (v : Value) (l : List Assn) : Prop := ∃ D' p q a c, v = .tuple #[rA p q a c D', .bool true] ∧ D'.Ok ∧ D'.pend.length ≤ D.pend.length + 1 ∧
  l = [dskA b D', rS (.slice p D'.secs.length a) D'.secs.length D'.secs, rW (.slice q D'.pend.length c) D'.pend.length D'.pend]
theorem StepR.mk {b : Nat} {D D' : DD} {p q : Option Addr} {a c : Nat} (n m : Nat) (S : List (List UInt8)) (Pd : List (Nat × List UInt8)) (hS : D'.secs = S) (hP : D'.pend = Pd) (hn : n = S.length) (hm : m = Pd.length) (h : D'.Ok) (hp : D'.pend.length ≤ D.pend.length + 1) :
    StepR b D (.tuple #[.agg #[.slice p n a, .slice q m c], .bool true]) [dskA b D', rS (.slice p n a) n S, rW (.slice q m c) m Pd] := by
  subst hn; subst hm; subst hS; subst hP; exact ⟨D', p, q, a, c, rfl, h, hp, rfl⟩
theorem DD.Ok.laid {D : DD} (h : D.Ok) (f : Nat → Option Nat) (hf : ∀ i k, f i = some k → k ≤ 256) (k : Nat) : DD.Ok ⟨D.lays f k, []⟩ := by
  obtain ⟨h1, h2⟩ := DD.lays_ok h f hf k
  exact ⟨by simp only; rw [h2]; exact h.pos, by simp only; rw [h2]; exact h.max, h1, by simp, by simp⟩
theorem DD.Ok.wr {D : DD} (h : D.Ok) (n : Nat) (d : List UInt8) (hn : n < D.secs.length) (hd : d.length = 256) : (D.write n d).Ok :=
  ⟨h.pos, h.max, h.secs, by
    intro p hp
    simp only [DD.write, List.mem_append, List.mem_singleton] at hp
    rcases hp with hp | rfl
    · exact h.at_ p hp
    · exact hn, by
    intro p hp
    simp only [DD.write, List.mem_append, List.mem_singleton] at hp
    rcases hp with hp | rfl
    · exact h.data p hp
    · exact hd⟩

set_option maxHeartbeats 1000000 in
set_option maxRecDepth 100000 in
theorem Rf.step (B : Base) (b : Nat) (D : DD) (p q : Option Addr) (a c : Nat) (o : OpD) (dv kv : Value) (hd : RoS B dv (bytesV o.data)) (hk : RoS B kv (boolsV o.keep)) (hD : D.Ok) (hp : D.pend.length + 1 < 2 ^ 32) :
    Fn Try.prog B 19 #[.pointer (some ⟨b, 0, none⟩), rA p q a c D, .agg #[.int .i64 o.kind, .int .i64 o.at_, dv, kv, .int .i64 o.t0, .int .i64 o.t1]] [dskA b D, rS (.slice p D.secs.length a) D.secs.length D.secs, rW (.slice q D.pend.length c) D.pend.length D.pend] (StepR b D) := by
  have hmax := hD.max
  obtain ⟨da, dc, rfl⟩ := hd.form (n := o.data.length) (by simp)
  obtain ⟨ka, kc, rfl⟩ := hk.form (n := o.keep.length) (by simp [boolsV])
  refine Fn.enter3 98 Try.func19 rfl rfl (Nat.le_of_ble_eq_true rfl) (fun F => ?_)
  try simp only [List.cons_append, List.nil_append]
  refine T.seq ?_
  refine T.region ?_
  refine LW.e rfl (Ef.box [_, _] rfl rfl ?_)
  intro g4
  refine LW.e rfl (Ef.box [_, _, _, _, _, _] rfl rfl ?_)
  intro g5
  refine LW.e rfl (Ef.alloc [.slice none 0 0, .slice none 0 0] (by unfold zeroB; kernel_rfl) ?_)
  intro g6
  refine LW.q rfl (Qt.assign rfl) ?_
  refine LW.done ?_
  refine T.seq ?_
  refine T.seq ?_
  refine T.region ?_
  refine LW.q rfl (Qt.fieldAddr0 (by kernel_rfl) rfl) ?_
  first | refine LW.q rfl (Qt.load (by kernel_rfl) rfl rfl) ?_ | refine LW.q rfl (Qt.load (by kernel_rfl) rfl (map_at _ _ _ (by omega))) ?_ | refine LW.q rfl (Qt.load (by kernel_rfl) rfl (flat_cell0 _ _ _ (by intros; rfl) _ (by omega) (by rfl))) ?_ | refine LW.q rfl (Qt.load (by kernel_rfl) rfl (flat_cell _ _ _ (by intros; rfl) _ _ (by omega) (by rfl))) ?_ | refine LW.q rfl (Qt.load (by kernel_rfl) rfl (bytes_at _ _ (by omega))) ?_
  refine LW.done ?_
  refine T.block ?_
  refine T.seq ?_
  refine T.region ?_
  refine LW.q rfl (Qt.eql rfl rfl) ?_
  refine LW.q rfl (Qt.assign rfl) ?_
  refine LW.done ?_
  refine T.condP rfl (fun h0 => ?_) (fun h0 => ?_)
  · skip
    refine T.seq ?_
    refine T.region ?_
    first | refine LW.q rfl (Qt.loadAgg [_, _] (by kernel_rfl) rfl ⟨rfl, rfl, trivial⟩) ?_ | refine LW.q rfl (Qt.loadAgg [_, _] (by kernel_rfl) rfl (by exact rdl_flat _ _ _ (by intros; rfl) _ (by omega))) ?_
    refine LW.q rfl (Qt.fieldAddr (off := 1) (by kernel_rfl) rfl) ?_
    first | refine LW.q rfl (Qt.load (by kernel_rfl) rfl rfl) ?_ | refine LW.q rfl (Qt.load (by kernel_rfl) rfl (map_at _ _ _ (by omega))) ?_ | refine LW.q rfl (Qt.load (by kernel_rfl) rfl (flat_cell0 _ _ _ (by intros; rfl) _ (by omega) (by rfl))) ?_ | refine LW.q rfl (Qt.load (by kernel_rfl) rfl (flat_cell _ _ _ (by intros; rfl) _ _ (by omega) (by rfl))) ?_ | refine LW.q rfl (Qt.load (by kernel_rfl) rfl (bytes_at _ _ (by omega))) ?_
    refine LW.q rfl (Qt.fieldAddr (off := 2) (by kernel_rfl) rfl) ?_
    first | refine LW.q rfl (Qt.load (by kernel_rfl) rfl rfl) ?_ | refine LW.q rfl (Qt.load (by kernel_rfl) rfl (map_at _ _ _ (by omega))) ?_ | refine LW.q rfl (Qt.load (by kernel_rfl) rfl (flat_cell0 _ _ _ (by intros; rfl) _ (by omega) (by rfl))) ?_ | refine LW.q rfl (Qt.load (by kernel_rfl) rfl (flat_cell _ _ _ (by intros; rfl) _ _ (by omega) (by rfl))) ?_ | refine LW.q rfl (Qt.load (by kernel_rfl) rfl (bytes_at _ _ (by omega))) ?_
    refine LW.q rfl (Qt.str o.data (by kernel_rfl) (by kernel_rfl) rfl hd.str) ?_
    by_cases hr : o.at_ < 0 ∨ (D.secs.length : Int) ≤ o.at_
    · skip
      refine LW.e rfl (Ef.call (Rf.put_range B p q a c D.secs.length D.pend.length o.at_ o.data hr) Try.func26 rfl rfl rfl ?_)
      rintro _ _ ⟨rfl, rfl⟩
      try simp only [List.cons_append, List.nil_append]
      refine LW.q rfl (Qt.move rfl) ?_
      refine LW.q rfl (Qt.extract rfl rfl) ?_
      refine LW.q rfl (Qt.extract rfl rfl) ?_
      refine LW.e rfl (Ef.alloc [.slice none 0 0, .slice none 0 0] (by unfold zeroB; kernel_rfl) ?_)
      intro g8
      refine LW.e0 rfl (Ef.store [_, _] (by kernel_rfl) rfl rfl rfl rfl (by simp) ?_)
      try simp only [splice, List.length_cons, List.length_nil, List.drop_succ_cons, List.cons_append, List.take_succ_cons, List.take_zero, List.drop_zero, List.nil_append, List.append_nil]
      refine LW.q rfl (Qt.assign rfl) ?_
      refine LW.done ?_
      refine T.seq ?_
      refine T.drawBl 10 (some g6) (by kernel_rfl) (Nat.le_of_ble_eq_true rfl) (by kernel_rfl) ?_
      first | refine RW.q 0 rfl rfl (by kernel_rfl) Sub.any (Qt.loadAgg [_, _] (by kernel_rfl) rfl ⟨rfl, rfl, trivial⟩) ?_ | refine RW.q 0 rfl rfl (by kernel_rfl) Sub.any (Qt.loadAgg [_, _] (by kernel_rfl) rfl (by exact rdl_flat _ _ _ (by intros; rfl) _ (by omega))) ?_
      refine RW.q 1 rfl rfl (by kernel_rfl) Sub.any (Qt.move rfl) ?_
      refine RW.q 2 rfl rfl (by kernel_rfl) Sub.any (Qt.fieldAddr (off := 1) (by kernel_rfl) rfl) ?_
      first | refine RW.q 3 rfl rfl (by kernel_rfl) Sub.any (Qt.load (by kernel_rfl) rfl rfl) ?_ | refine RW.q 3 rfl rfl (by kernel_rfl) Sub.any (Qt.load (by kernel_rfl) rfl (map_at _ _ _ (by omega))) ?_ | refine RW.q 3 rfl rfl (by kernel_rfl) Sub.any (Qt.load (by kernel_rfl) rfl (flat_cell0 _ _ _ (by intros; rfl) _ (by omega) (by rfl))) ?_ | refine RW.q 3 rfl rfl (by kernel_rfl) Sub.any (Qt.load (by kernel_rfl) rfl (flat_cell _ _ _ (by intros; rfl) _ _ (by omega) (by rfl))) ?_ | refine RW.q 3 rfl rfl (by kernel_rfl) Sub.any (Qt.load (by kernel_rfl) rfl (bytes_at _ _ (by omega))) ?_
      refine RW.q 4 rfl rfl (by kernel_rfl) Sub.any (Qt.fieldAddr (off := 2) (by kernel_rfl) rfl) ?_
      first | refine RW.q 5 rfl rfl (by kernel_rfl) Sub.any (Qt.load (by kernel_rfl) rfl rfl) ?_ | refine RW.q 5 rfl rfl (by kernel_rfl) Sub.any (Qt.load (by kernel_rfl) rfl (map_at _ _ _ (by omega))) ?_ | refine RW.q 5 rfl rfl (by kernel_rfl) Sub.any (Qt.load (by kernel_rfl) rfl (flat_cell0 _ _ _ (by intros; rfl) _ (by omega) (by rfl))) ?_ | refine RW.q 5 rfl rfl (by kernel_rfl) Sub.any (Qt.load (by kernel_rfl) rfl (flat_cell _ _ _ (by intros; rfl) _ _ (by omega) (by rfl))) ?_ | refine RW.q 5 rfl rfl (by kernel_rfl) Sub.any (Qt.load (by kernel_rfl) rfl (bytes_at _ _ (by omega))) ?_
      refine RW.q 7 rfl rfl (by kernel_rfl) Sub.any (Qt.move rfl) ?_
      refine RW.one 6 (by kernel_rfl) ?_
      refine RO.eS rfl rfl (Ef.call (Dk.write_noF B b D _ o.at_ hr) Try.func12 rfl rfl rfl ?_)
      rintro _ _ ⟨rfl, rfl⟩
      try simp only [List.cons_append, List.nil_append]
      refine ⟨Sub.any, ?_⟩
      refine RW.q 8 rfl rfl (by kernel_rfl) Sub.any (Qt.eql rfl rfl) ?_
      refine RW.one 9 (by kernel_rfl) ?_
      refine RO.eS0 rfl rfl (Ef.store [_, _] (by kernel_rfl) rfl rfl rfl rfl (by simp) ?_)
      try simp only [splice, List.length_cons, List.length_nil, List.drop_succ_cons, List.cons_append, List.take_succ_cons, List.take_zero, List.drop_zero, List.nil_append, List.append_nil]
      refine ⟨Sub.any, ?_⟩
      refine RW.done (by rfl) ?_
      simp only [List.drop_succ_cons, List.drop_zero, List.drop_nil]
      refine LW.q rfl (Qt.assign rfl) ?_
      refine LW.done ?_
      refine T.ret ?_
      exact ⟨.inl rfl, _, _, res [_, _] rfl ⟨rvA [_, _] (by kernel_rfl) rfl ⟨rfl, rfl, trivial⟩, rvT rfl, trivial⟩, StepR.mk _ _ D.secs D.pend rfl rfl rfl rfl hD (by omega), Sub.any⟩
    · skip
      by_cases hl : o.data.length = 256
      · skip
        obtain ⟨j, hj⟩ : ∃ j : Nat, o.at_ = j := ⟨o.at_.toNat, by omega⟩
        refine LW.e rfl (Ef.call (Rf.put B p q a c D.secs.length D.pend.length o.at_ j hj o.data D.secs D.pend hmax hp (by omega) hl) Try.func26 rfl rfl rfl ?_)
        rintro _ _ ⟨p1, a1, q1, c1, rfl, rfl⟩
        try simp only [List.cons_append, List.nil_append]
        refine LW.q rfl (Qt.move rfl) ?_
        refine LW.q rfl (Qt.extract rfl rfl) ?_
        refine LW.q rfl (Qt.extract rfl rfl) ?_
        refine LW.e rfl (Ef.alloc [.slice none 0 0, .slice none 0 0] (by unfold zeroB; kernel_rfl) ?_)
        intro g8
        refine LW.e0 rfl (Ef.store [_, _] (by kernel_rfl) rfl rfl rfl rfl (by simp) ?_)
        try simp only [splice, List.length_cons, List.length_nil, List.drop_succ_cons, List.cons_append, List.take_succ_cons, List.take_zero, List.drop_zero, List.nil_append, List.append_nil]
        refine LW.q rfl (Qt.assign rfl) ?_
        refine LW.done ?_
        refine T.seq ?_
        rw [hl] at hd ⊢
        refine T.drawBl 10 (some g6) (by kernel_rfl) (Nat.le_of_ble_eq_true rfl) (by kernel_rfl) ?_
        first | refine RW.q 0 rfl rfl (by kernel_rfl) Sub.any (Qt.loadAgg [_, _] (by kernel_rfl) rfl ⟨rfl, rfl, trivial⟩) ?_ | refine RW.q 0 rfl rfl (by kernel_rfl) Sub.any (Qt.loadAgg [_, _] (by kernel_rfl) rfl (by exact rdl_flat _ _ _ (by intros; rfl) _ (by omega))) ?_
        refine RW.q 1 rfl rfl (by kernel_rfl) Sub.any (Qt.move rfl) ?_
        refine RW.q 2 rfl rfl (by kernel_rfl) Sub.any (Qt.fieldAddr (off := 1) (by kernel_rfl) rfl) ?_
        first | refine RW.q 3 rfl rfl (by kernel_rfl) Sub.any (Qt.load (by kernel_rfl) rfl rfl) ?_ | refine RW.q 3 rfl rfl (by kernel_rfl) Sub.any (Qt.load (by kernel_rfl) rfl (map_at _ _ _ (by omega))) ?_ | refine RW.q 3 rfl rfl (by kernel_rfl) Sub.any (Qt.load (by kernel_rfl) rfl (flat_cell0 _ _ _ (by intros; rfl) _ (by omega) (by rfl))) ?_ | refine RW.q 3 rfl rfl (by kernel_rfl) Sub.any (Qt.load (by kernel_rfl) rfl (flat_cell _ _ _ (by intros; rfl) _ _ (by omega) (by rfl))) ?_ | refine RW.q 3 rfl rfl (by kernel_rfl) Sub.any (Qt.load (by kernel_rfl) rfl (bytes_at _ _ (by omega))) ?_
        refine RW.q 4 rfl rfl (by kernel_rfl) Sub.any (Qt.fieldAddr (off := 2) (by kernel_rfl) rfl) ?_
        first | refine RW.q 5 rfl rfl (by kernel_rfl) Sub.any (Qt.load (by kernel_rfl) rfl rfl) ?_ | refine RW.q 5 rfl rfl (by kernel_rfl) Sub.any (Qt.load (by kernel_rfl) rfl (map_at _ _ _ (by omega))) ?_ | refine RW.q 5 rfl rfl (by kernel_rfl) Sub.any (Qt.load (by kernel_rfl) rfl (flat_cell0 _ _ _ (by intros; rfl) _ (by omega) (by rfl))) ?_ | refine RW.q 5 rfl rfl (by kernel_rfl) Sub.any (Qt.load (by kernel_rfl) rfl (flat_cell _ _ _ (by intros; rfl) _ _ (by omega) (by rfl))) ?_ | refine RW.q 5 rfl rfl (by kernel_rfl) Sub.any (Qt.load (by kernel_rfl) rfl (bytes_at _ _ (by omega))) ?_
        refine RW.q 7 rfl rfl (by kernel_rfl) Sub.any (Qt.move rfl) ?_
        refine RW.one 6 (by kernel_rfl) ?_
        refine RO.eS rfl rfl (Ef.call (Dk.writeR B b D _ j o.at_ hj o.data hd (by omega) hl (by omega)) Try.func12 rfl rfl rfl ?_)
        rintro _ _ ⟨rfl, rfl⟩
        try simp only [List.cons_append, List.nil_append]
        refine ⟨Sub.any, ?_⟩
        refine RW.q 8 rfl rfl (by kernel_rfl) Sub.any (Qt.eql rfl rfl) ?_
        refine RW.one 9 (by kernel_rfl) ?_
        refine RO.eS0 rfl rfl (Ef.store [_, _] (by kernel_rfl) rfl rfl rfl rfl (by simp) ?_)
        try simp only [splice, List.length_cons, List.length_nil, List.drop_succ_cons, List.cons_append, List.take_succ_cons, List.take_zero, List.drop_zero, List.nil_append, List.append_nil]
        refine ⟨Sub.any, ?_⟩
        refine RW.done (by rfl) ?_
        simp only [List.drop_succ_cons, List.drop_zero, List.drop_nil]
        refine LW.q rfl (Qt.assign rfl) ?_
        refine LW.done ?_
        refine T.ret ?_
        exact ⟨.inl rfl, _, _, res [_, _] rfl ⟨rvA [_, _] (by kernel_rfl) rfl ⟨rfl, rfl, trivial⟩, rvT rfl, trivial⟩, StepR.mk (D' := D.write j o.data) _ _ D.secs (D.pend ++ [(j, o.data)]) rfl rfl rfl (by simp) (hD.wr j o.data (by omega) hl) (by simp [DD.write]), Sub.any⟩
      · skip
        refine LW.e rfl (Ef.call (Rf.put_length B p q a c D.secs.length D.pend.length o.at_ o.data (by omega) (by omega) hl) Try.func26 rfl rfl rfl ?_)
        rintro _ _ ⟨rfl, rfl⟩
        try simp only [List.cons_append, List.nil_append]
        refine LW.q rfl (Qt.move rfl) ?_
        refine LW.q rfl (Qt.extract rfl rfl) ?_
        refine LW.q rfl (Qt.extract rfl rfl) ?_
        refine LW.e rfl (Ef.alloc [.slice none 0 0, .slice none 0 0] (by unfold zeroB; kernel_rfl) ?_)
        intro g8
        refine LW.e0 rfl (Ef.store [_, _] (by kernel_rfl) rfl rfl rfl rfl (by simp) ?_)
        try simp only [splice, List.length_cons, List.length_nil, List.drop_succ_cons, List.cons_append, List.take_succ_cons, List.take_zero, List.drop_zero, List.nil_append, List.append_nil]
        refine LW.q rfl (Qt.assign rfl) ?_
        refine LW.done ?_
        refine T.seq ?_
        refine T.drawBl 10 (some g6) (by kernel_rfl) (Nat.le_of_ble_eq_true rfl) (by kernel_rfl) ?_
        first | refine RW.q 0 rfl rfl (by kernel_rfl) Sub.any (Qt.loadAgg [_, _] (by kernel_rfl) rfl ⟨rfl, rfl, trivial⟩) ?_ | refine RW.q 0 rfl rfl (by kernel_rfl) Sub.any (Qt.loadAgg [_, _] (by kernel_rfl) rfl (by exact rdl_flat _ _ _ (by intros; rfl) _ (by omega))) ?_
        refine RW.q 1 rfl rfl (by kernel_rfl) Sub.any (Qt.move rfl) ?_
        refine RW.q 2 rfl rfl (by kernel_rfl) Sub.any (Qt.fieldAddr (off := 1) (by kernel_rfl) rfl) ?_
        first | refine RW.q 3 rfl rfl (by kernel_rfl) Sub.any (Qt.load (by kernel_rfl) rfl rfl) ?_ | refine RW.q 3 rfl rfl (by kernel_rfl) Sub.any (Qt.load (by kernel_rfl) rfl (map_at _ _ _ (by omega))) ?_ | refine RW.q 3 rfl rfl (by kernel_rfl) Sub.any (Qt.load (by kernel_rfl) rfl (flat_cell0 _ _ _ (by intros; rfl) _ (by omega) (by rfl))) ?_ | refine RW.q 3 rfl rfl (by kernel_rfl) Sub.any (Qt.load (by kernel_rfl) rfl (flat_cell _ _ _ (by intros; rfl) _ _ (by omega) (by rfl))) ?_ | refine RW.q 3 rfl rfl (by kernel_rfl) Sub.any (Qt.load (by kernel_rfl) rfl (bytes_at _ _ (by omega))) ?_
        refine RW.q 4 rfl rfl (by kernel_rfl) Sub.any (Qt.fieldAddr (off := 2) (by kernel_rfl) rfl) ?_
        first | refine RW.q 5 rfl rfl (by kernel_rfl) Sub.any (Qt.load (by kernel_rfl) rfl rfl) ?_ | refine RW.q 5 rfl rfl (by kernel_rfl) Sub.any (Qt.load (by kernel_rfl) rfl (map_at _ _ _ (by omega))) ?_ | refine RW.q 5 rfl rfl (by kernel_rfl) Sub.any (Qt.load (by kernel_rfl) rfl (flat_cell0 _ _ _ (by intros; rfl) _ (by omega) (by rfl))) ?_ | refine RW.q 5 rfl rfl (by kernel_rfl) Sub.any (Qt.load (by kernel_rfl) rfl (flat_cell _ _ _ (by intros; rfl) _ _ (by omega) (by rfl))) ?_ | refine RW.q 5 rfl rfl (by kernel_rfl) Sub.any (Qt.load (by kernel_rfl) rfl (bytes_at _ _ (by omega))) ?_
        refine RW.q 7 rfl rfl (by kernel_rfl) Sub.any (Qt.move rfl) ?_
        refine RW.one 6 (by kernel_rfl) ?_
        refine RO.eS rfl rfl (Ef.call (Dk.write_lengthF B b D _ _ _ o.at_ (by omega) (by omega) hl) Try.func12 rfl rfl rfl ?_)
        rintro _ _ ⟨rfl, rfl⟩
        try simp only [List.cons_append, List.nil_append]
        refine ⟨Sub.any, ?_⟩
        refine RW.q 8 rfl rfl (by kernel_rfl) Sub.any (Qt.eql rfl rfl) ?_
        refine RW.one 9 (by kernel_rfl) ?_
        refine RO.eS0 rfl rfl (Ef.store [_, _] (by kernel_rfl) rfl rfl rfl rfl (by simp) ?_)
        try simp only [splice, List.length_cons, List.length_nil, List.drop_succ_cons, List.cons_append, List.take_succ_cons, List.take_zero, List.drop_zero, List.nil_append, List.append_nil]
        refine ⟨Sub.any, ?_⟩
        refine RW.done (by rfl) ?_
        simp only [List.drop_succ_cons, List.drop_zero, List.drop_nil]
        refine LW.q rfl (Qt.assign rfl) ?_
        refine LW.done ?_
        refine T.ret ?_
        exact ⟨.inl rfl, _, _, res [_, _] rfl ⟨rvA [_, _] (by kernel_rfl) rfl ⟨rfl, rfl, trivial⟩, rvT rfl, trivial⟩, StepR.mk _ _ D.secs D.pend rfl rfl rfl rfl hD (by omega), Sub.any⟩
  · skip
    refine T.seq ?_
    refine T.region ?_
    refine LW.q rfl (Qt.eql rfl rfl) ?_
    refine LW.q rfl (Qt.assign rfl) ?_
    refine LW.done ?_
    refine T.condP rfl (fun h1 => ?_) (fun h1 => ?_)
    · skip
      by_cases hr : o.at_ < 0 ∨ (D.secs.length : Int) ≤ o.at_
      · skip
        refine T.seq ?_
        refine T.region ?_
        refine LW.q rfl (Qt.move rfl) ?_
        refine LW.q rfl (Qt.fieldAddr (off := 1) (by kernel_rfl) rfl) ?_
        first | refine LW.q rfl (Qt.load (by kernel_rfl) rfl rfl) ?_ | refine LW.q rfl (Qt.load (by kernel_rfl) rfl (map_at _ _ _ (by omega))) ?_ | refine LW.q rfl (Qt.load (by kernel_rfl) rfl (flat_cell0 _ _ _ (by intros; rfl) _ (by omega) (by rfl))) ?_ | refine LW.q rfl (Qt.load (by kernel_rfl) rfl (flat_cell _ _ _ (by intros; rfl) _ _ (by omega) (by rfl))) ?_ | refine LW.q rfl (Qt.load (by kernel_rfl) rfl (bytes_at _ _ (by omega))) ?_
        refine LW.e rfl (Ef.call (Dk.read_noF B b D o.at_ hr) Try.func13 rfl rfl rfl ?_)
        rintro _ _ ⟨rfl, rfl⟩
        try simp only [List.cons_append, List.nil_append]
        refine LW.q rfl (Qt.move rfl) ?_
        refine LW.q rfl (Qt.extract rfl rfl) ?_
        refine LW.q rfl (Qt.extract rfl rfl) ?_
        refine LW.q rfl (Qt.assign rfl) ?_
        refine LW.q rfl (Qt.assign rfl) ?_
        refine LW.done ?_
        refine T.seq ?_
        refine T.region ?_
        first | refine LW.q rfl (Qt.loadAgg [_, _] (by kernel_rfl) rfl ⟨rfl, rfl, trivial⟩) ?_ | refine LW.q rfl (Qt.loadAgg [_, _] (by kernel_rfl) rfl (by exact rdl_flat _ _ _ (by intros; rfl) _ (by omega))) ?_
        refine LW.q rfl (Qt.fieldAddr (off := 1) (by kernel_rfl) rfl) ?_
        first | refine LW.q rfl (Qt.load (by kernel_rfl) rfl rfl) ?_ | refine LW.q rfl (Qt.load (by kernel_rfl) rfl (map_at _ _ _ (by omega))) ?_ | refine LW.q rfl (Qt.load (by kernel_rfl) rfl (flat_cell0 _ _ _ (by intros; rfl) _ (by omega) (by rfl))) ?_ | refine LW.q rfl (Qt.load (by kernel_rfl) rfl (flat_cell _ _ _ (by intros; rfl) _ _ (by omega) (by rfl))) ?_ | refine LW.q rfl (Qt.load (by kernel_rfl) rfl (bytes_at _ _ (by omega))) ?_
        refine LW.e rfl (Ef.call (Rf.read_range B p q a c D.secs.length D.pend.length o.at_ hr) Try.func27 rfl rfl rfl ?_)
        rintro _ _ ⟨rfl, rfl⟩
        try simp only [List.cons_append, List.nil_append]
        refine LW.q rfl (Qt.move rfl) ?_
        refine LW.q rfl (Qt.extract rfl rfl) ?_
        refine LW.q rfl (Qt.extract rfl rfl) ?_
        refine LW.q rfl (Qt.assign rfl) ?_
        refine LW.q rfl (Qt.assign rfl) ?_
        refine LW.done ?_
        refine T.seq ?_
        refine T.region ?_
        first | refine LW.q rfl (Qt.loadAgg [_, _] (by kernel_rfl) rfl ⟨rfl, rfl, trivial⟩) ?_ | refine LW.q rfl (Qt.loadAgg [_, _] (by kernel_rfl) rfl (by exact rdl_flat _ _ _ (by intros; rfl) _ (by omega))) ?_
        refine LW.q rfl (Qt.move rfl) ?_
        refine LW.q rfl (Qt.str [] (by kernel_rfl) (by kernel_rfl) rfl (fun w _ => ⟨[], none, 0, rfl, .inl rfl⟩)) ?_
        refine LW.q rfl (Qt.move rfl) ?_
        refine LW.q rfl (Qt.eqlS rfl rfl) ?_
        refine LW.q rfl (Qt.move rfl) ?_
        first | refine LW.gT (t := 59) rfl rfl ?_ | refine LW.gT (t := 59) rfl (decide_eq_true (by omega)) ?_ | refine LW.gT (t := 59) rfl (by omega) ?_
        refine LW.q rfl (Qt.move rfl) ?_
        refine LW.q rfl (Qt.move rfl) ?_
        refine LW.q rfl (Qt.eql rfl rfl) ?_
        refine LW.q rfl (Qt.pick rfl rfl) ?_
        refine LW.e0 rfl (Ef.store [_, _] (by kernel_rfl) rfl rfl rfl rfl (by simp) ?_)
        try simp only [splice, List.length_cons, List.length_nil, List.drop_succ_cons, List.cons_append, List.take_succ_cons, List.take_zero, List.drop_zero, List.nil_append, List.append_nil]
        refine LW.q rfl (Qt.assign rfl) ?_
        refine LW.done ?_
        refine T.ret ?_
        exact ⟨.inl rfl, _, _, res [_, _] rfl ⟨rvA [_, _] (by kernel_rfl) rfl ⟨rfl, rfl, trivial⟩, rvT rfl, trivial⟩, StepR.mk _ _ D.secs D.pend rfl rfl rfl rfl hD (by omega), Sub.any⟩
      · skip
        obtain ⟨j, hj⟩ : ∃ j : Nat, o.at_ = j := ⟨o.at_.toNat, by omega⟩
        have hrl : (D.read j).length = 256 := hD.readK j (by omega) _ (Nat.le_refl _)
        refine T.seq ?_
        refine T.region ?_
        refine LW.q rfl (Qt.move rfl) ?_
        refine LW.q rfl (Qt.fieldAddr (off := 1) (by kernel_rfl) rfl) ?_
        first | refine LW.q rfl (Qt.load (by kernel_rfl) rfl rfl) ?_ | refine LW.q rfl (Qt.load (by kernel_rfl) rfl (map_at _ _ _ (by omega))) ?_ | refine LW.q rfl (Qt.load (by kernel_rfl) rfl (flat_cell0 _ _ _ (by intros; rfl) _ (by omega) (by rfl))) ?_ | refine LW.q rfl (Qt.load (by kernel_rfl) rfl (flat_cell _ _ _ (by intros; rfl) _ _ (by omega) (by rfl))) ?_ | refine LW.q rfl (Qt.load (by kernel_rfl) rfl (bytes_at _ _ (by omega))) ?_
        refine LW.e rfl (Ef.call (Dk.readF B b D j o.at_ hj (by omega) (by omega)) Try.func13 rfl rfl rfl ?_)
        rintro _ _ ⟨g, cap, rfl, rfl⟩
        try simp only [List.cons_append, List.nil_append]
        refine LW.q rfl (Qt.move rfl) ?_
        refine LW.q rfl (Qt.extract rfl rfl) ?_
        refine LW.q rfl (Qt.extract rfl rfl) ?_
        refine LW.q rfl (Qt.assign rfl) ?_
        refine LW.q rfl (Qt.assign rfl) ?_
        refine LW.done ?_
        refine T.seq ?_
        refine T.region ?_
        first | refine LW.q rfl (Qt.loadAgg [_, _] (by kernel_rfl) rfl ⟨rfl, rfl, trivial⟩) ?_ | refine LW.q rfl (Qt.loadAgg [_, _] (by kernel_rfl) rfl (by exact rdl_flat _ _ _ (by intros; rfl) _ (by omega))) ?_
        refine LW.q rfl (Qt.fieldAddr (off := 1) (by kernel_rfl) rfl) ?_
        first | refine LW.q rfl (Qt.load (by kernel_rfl) rfl rfl) ?_ | refine LW.q rfl (Qt.load (by kernel_rfl) rfl (map_at _ _ _ (by omega))) ?_ | refine LW.q rfl (Qt.load (by kernel_rfl) rfl (flat_cell0 _ _ _ (by intros; rfl) _ (by omega) (by rfl))) ?_ | refine LW.q rfl (Qt.load (by kernel_rfl) rfl (flat_cell _ _ _ (by intros; rfl) _ _ (by omega) (by rfl))) ?_ | refine LW.q rfl (Qt.load (by kernel_rfl) rfl (bytes_at _ _ (by omega))) ?_
        refine LW.e rfl (Ef.call (Rf.read B p q a c D.secs.length D.pend.length o.at_ j hj D.secs D.pend (by omega) hmax (by omega)) Try.func27 rfl rfl rfl ?_)
        rintro _ _ ⟨rfl, rfl⟩
        try simp only [List.cons_append, List.nil_append]
        refine LW.q rfl (Qt.move rfl) ?_
        refine LW.q rfl (Qt.extract rfl rfl) ?_
        refine LW.q rfl (Qt.extract rfl rfl) ?_
        refine LW.q rfl (Qt.assign rfl) ?_
        refine LW.q rfl (Qt.assign rfl) ?_
        refine LW.done ?_
        refine T.seq ?_
        refine T.region ?_
        first | refine LW.q rfl (Qt.loadAgg [_, _] (by kernel_rfl) rfl ⟨rfl, rfl, trivial⟩) ?_ | refine LW.q rfl (Qt.loadAgg [_, _] (by kernel_rfl) rfl (by exact rdl_flat _ _ _ (by intros; rfl) _ (by omega))) ?_
        refine LW.q rfl (Qt.move rfl) ?_
        refine LW.q rfl (Qt.str (D.read j) (by kernel_rfl) (by kernel_rfl) rfl (fun _ ho => ho.reads_row hrl)) ?_
        refine LW.q rfl (Qt.move rfl) ?_
        refine LW.q rfl (Qt.eqlS rfl rfl) ?_
        refine LW.q rfl (Qt.move rfl) ?_
        first | refine LW.gT (t := 59) rfl rfl ?_ | refine LW.gT (t := 59) rfl (decide_eq_true (rfl)) ?_ | refine LW.gT (t := 59) rfl (rfl) ?_
        refine LW.q rfl (Qt.move rfl) ?_
        refine LW.q rfl (Qt.move rfl) ?_
        refine LW.q rfl (Qt.eql rfl rfl) ?_
        refine LW.q rfl (Qt.pick rfl rfl) ?_
        refine LW.e0 rfl (Ef.store [_, _] (by kernel_rfl) rfl rfl rfl rfl (by simp) ?_)
        try simp only [splice, List.length_cons, List.length_nil, List.drop_succ_cons, List.cons_append, List.take_succ_cons, List.take_zero, List.drop_zero, List.nil_append, List.append_nil]
        refine LW.q rfl (Qt.assign rfl) ?_
        refine LW.done ?_
        refine T.ret ?_
        exact ⟨.inl rfl, _, _, res [_, _] rfl ⟨rvA [_, _] (by kernel_rfl) rfl ⟨rfl, rfl, trivial⟩, rvT rfl, trivial⟩, StepR.mk _ _ D.secs D.pend rfl rfl rfl rfl hD (by omega), Sub.any⟩
    · skip
      refine T.seq ?_
      refine T.region ?_
      refine LW.q rfl (Qt.eql rfl rfl) ?_
      refine LW.q rfl (Qt.assign rfl) ?_
      refine LW.done ?_
      refine T.condP rfl (fun h2 => ?_) (fun h2 => ?_)
      · skip
        refine T.seq ?_
        refine T.region ?_
        refine LW.q rfl (Qt.move rfl) ?_
        refine LW.e rfl (Ef.call (Dk.syncF B b D (by omega)) Try.func16 rfl rfl rfl ?_)
        rintro _ _ ⟨rfl, rfl⟩
        try simp only [List.cons_append, List.nil_append]
        refine LW.q rfl (Qt.assign rfl) ?_
        refine LW.done ?_
        refine T.seq ?_
        refine T.drawBl 8 (some g6) (by kernel_rfl) (Nat.le_of_ble_eq_true rfl) (by kernel_rfl) ?_
        first | refine RW.q 0 rfl rfl (by kernel_rfl) Sub.any (Qt.loadAgg [_, _] (by kernel_rfl) rfl ⟨rfl, rfl, trivial⟩) ?_ | refine RW.q 0 rfl rfl (by kernel_rfl) Sub.any (Qt.loadAgg [_, _] (by kernel_rfl) rfl (by exact rdl_flat _ _ _ (by intros; rfl) _ (by omega))) ?_
        refine RW.q 2 rfl rfl (by kernel_rfl) Sub.any (Qt.move rfl) ?_
        refine RW.q 3 rfl rfl (by kernel_rfl) Sub.any (Qt.fieldAddr (off := 1) (by kernel_rfl) rfl) ?_
        first | refine RW.q 4 rfl rfl (by kernel_rfl) Sub.any (Qt.load (by kernel_rfl) rfl rfl) ?_ | refine RW.q 4 rfl rfl (by kernel_rfl) Sub.any (Qt.load (by kernel_rfl) rfl (map_at _ _ _ (by omega))) ?_ | refine RW.q 4 rfl rfl (by kernel_rfl) Sub.any (Qt.load (by kernel_rfl) rfl (flat_cell0 _ _ _ (by intros; rfl) _ (by omega) (by rfl))) ?_ | refine RW.q 4 rfl rfl (by kernel_rfl) Sub.any (Qt.load (by kernel_rfl) rfl (flat_cell _ _ _ (by intros; rfl) _ _ (by omega) (by rfl))) ?_ | refine RW.q 4 rfl rfl (by kernel_rfl) Sub.any (Qt.load (by kernel_rfl) rfl (bytes_at _ _ (by omega))) ?_
        refine RW.q 5 rfl rfl (by kernel_rfl) Sub.any (Qt.len (e := 76) (sz := 2) (by kernel_rfl) rfl) ?_
        refine RW.q 6 rfl rfl (by kernel_rfl) Sub.any (Qt.eql rfl rfl) ?_
        refine RW.one 1 (by kernel_rfl) ?_
        refine RO.eS rfl rfl (Ef.call (Rf.crash B p q a c D.secs.length D.pend.length true _ [] 0 0 D.secs D.pend hD (by omega) (RoS.nil B)) Try.func28 rfl rfl rfl ?_)
        rintro _ _ ⟨p1, a1, rfl, rfl⟩
        try simp only [List.cons_append, List.nil_append]
        refine ⟨Sub.any, ?_⟩
        refine RW.one 7 (by kernel_rfl) ?_
        refine RO.eS0 rfl rfl (Ef.store [_, _] (by kernel_rfl) rfl rfl rfl rfl (by simp) ?_)
        try simp only [splice, List.length_cons, List.length_nil, List.drop_succ_cons, List.cons_append, List.take_succ_cons, List.take_zero, List.drop_zero, List.nil_append, List.append_nil]
        refine ⟨Sub.any, ?_⟩
        refine RW.done (by rfl) ?_
        simp only [List.drop_succ_cons, List.drop_zero, List.drop_nil]
        refine LW.q rfl (Qt.assign rfl) ?_
        refine LW.done ?_
        rw [lays_all]
        refine T.ret ?_
        exact ⟨.inl rfl, _, _, res [_, _] rfl ⟨rvA [_, _] (by kernel_rfl) rfl ⟨rfl, rfl, trivial⟩, rvT rfl, trivial⟩, StepR.mk (D' := D.sync) D.secs.length 0 (D.lays (fun _ => some 256) D.pend.length) [] rfl rfl (DD.lays_ok hD _ (fun i k e => by cases e; omega) _).2.symm rfl (hD.laid _ (fun i k e => by cases e; omega) _) (by simp [DD.sync]), Sub.any⟩
      · skip
        refine T.seq ?_
        refine T.region ?_
        refine LW.q rfl (Qt.eql rfl rfl) ?_
        refine LW.q rfl (Qt.assign rfl) ?_
        refine LW.done ?_
        refine T.condP rfl (fun h3 => ?_) (fun h3 => ?_)
        · skip
          refine T.seq ?_
          refine T.region ?_
          refine LW.q rfl (Qt.move rfl) ?_
          refine LW.q rfl (Qt.fieldAddr (off := 3) (by kernel_rfl) rfl) ?_
          first | refine LW.q rfl (Qt.load (by kernel_rfl) rfl rfl) ?_ | refine LW.q rfl (Qt.load (by kernel_rfl) rfl (map_at _ _ _ (by omega))) ?_ | refine LW.q rfl (Qt.load (by kernel_rfl) rfl (flat_cell0 _ _ _ (by intros; rfl) _ (by omega) (by rfl))) ?_ | refine LW.q rfl (Qt.load (by kernel_rfl) rfl (flat_cell _ _ _ (by intros; rfl) _ _ (by omega) (by rfl))) ?_ | refine LW.q rfl (Qt.load (by kernel_rfl) rfl (bytes_at _ _ (by omega))) ?_
          refine LW.q rfl (Qt.fieldAddr (off := 4) (by kernel_rfl) rfl) ?_
          refine LW.q rfl (Qt.indexA 0 (len := 2) (e := 3) (sz := 1) (by kernel_rfl) rfl rfl rfl (by omega)) ?_
          first | refine LW.q rfl (Qt.load (by kernel_rfl) rfl rfl) ?_ | refine LW.q rfl (Qt.load (by kernel_rfl) rfl (map_at _ _ _ (by omega))) ?_ | refine LW.q rfl (Qt.load (by kernel_rfl) rfl (flat_cell0 _ _ _ (by intros; rfl) _ (by omega) (by rfl))) ?_ | refine LW.q rfl (Qt.load (by kernel_rfl) rfl (flat_cell _ _ _ (by intros; rfl) _ _ (by omega) (by rfl))) ?_ | refine LW.q rfl (Qt.load (by kernel_rfl) rfl (bytes_at _ _ (by omega))) ?_
          refine LW.q rfl (Qt.fieldAddr (off := 4) (by kernel_rfl) rfl) ?_
          refine LW.q rfl (Qt.indexA 1 (len := 2) (e := 3) (sz := 1) (by kernel_rfl) rfl rfl rfl (by omega)) ?_
          first | refine LW.q rfl (Qt.load (by kernel_rfl) rfl rfl) ?_ | refine LW.q rfl (Qt.load (by kernel_rfl) rfl (map_at _ _ _ (by omega))) ?_ | refine LW.q rfl (Qt.load (by kernel_rfl) rfl (flat_cell0 _ _ _ (by intros; rfl) _ (by omega) (by rfl))) ?_ | refine LW.q rfl (Qt.load (by kernel_rfl) rfl (flat_cell _ _ _ (by intros; rfl) _ _ (by omega) (by rfl))) ?_ | refine LW.q rfl (Qt.load (by kernel_rfl) rfl (bytes_at _ _ (by omega))) ?_
          refine LW.e rfl (Ef.call (Dk.crashF B b D _ o.keep o.t0 o.t1 hk (by omega)) Try.func21 rfl rfl rfl ?_)
          rintro _ _ ⟨rfl, rfl⟩
          try simp only [List.cons_append, List.nil_append]
          refine LW.done ?_
          refine T.seq ?_
          refine T.region ?_
          first | refine LW.q rfl (Qt.loadAgg [_, _] (by kernel_rfl) rfl ⟨rfl, rfl, trivial⟩) ?_ | refine LW.q rfl (Qt.loadAgg [_, _] (by kernel_rfl) rfl (by exact rdl_flat _ _ _ (by intros; rfl) _ (by omega))) ?_
          refine LW.q rfl (Qt.fieldAddr (off := 3) (by kernel_rfl) rfl) ?_
          first | refine LW.q rfl (Qt.load (by kernel_rfl) rfl rfl) ?_ | refine LW.q rfl (Qt.load (by kernel_rfl) rfl (map_at _ _ _ (by omega))) ?_ | refine LW.q rfl (Qt.load (by kernel_rfl) rfl (flat_cell0 _ _ _ (by intros; rfl) _ (by omega) (by rfl))) ?_ | refine LW.q rfl (Qt.load (by kernel_rfl) rfl (flat_cell _ _ _ (by intros; rfl) _ _ (by omega) (by rfl))) ?_ | refine LW.q rfl (Qt.load (by kernel_rfl) rfl (bytes_at _ _ (by omega))) ?_
          refine LW.q rfl (Qt.fieldAddr (off := 4) (by kernel_rfl) rfl) ?_
          refine LW.q rfl (Qt.indexA 0 (len := 2) (e := 3) (sz := 1) (by kernel_rfl) rfl rfl rfl (by omega)) ?_
          first | refine LW.q rfl (Qt.load (by kernel_rfl) rfl rfl) ?_ | refine LW.q rfl (Qt.load (by kernel_rfl) rfl (map_at _ _ _ (by omega))) ?_ | refine LW.q rfl (Qt.load (by kernel_rfl) rfl (flat_cell0 _ _ _ (by intros; rfl) _ (by omega) (by rfl))) ?_ | refine LW.q rfl (Qt.load (by kernel_rfl) rfl (flat_cell _ _ _ (by intros; rfl) _ _ (by omega) (by rfl))) ?_ | refine LW.q rfl (Qt.load (by kernel_rfl) rfl (bytes_at _ _ (by omega))) ?_
          refine LW.q rfl (Qt.fieldAddr (off := 4) (by kernel_rfl) rfl) ?_
          refine LW.q rfl (Qt.indexA 1 (len := 2) (e := 3) (sz := 1) (by kernel_rfl) rfl rfl rfl (by omega)) ?_
          first | refine LW.q rfl (Qt.load (by kernel_rfl) rfl rfl) ?_ | refine LW.q rfl (Qt.load (by kernel_rfl) rfl (map_at _ _ _ (by omega))) ?_ | refine LW.q rfl (Qt.load (by kernel_rfl) rfl (flat_cell0 _ _ _ (by intros; rfl) _ (by omega) (by rfl))) ?_ | refine LW.q rfl (Qt.load (by kernel_rfl) rfl (flat_cell _ _ _ (by intros; rfl) _ _ (by omega) (by rfl))) ?_ | refine LW.q rfl (Qt.load (by kernel_rfl) rfl (bytes_at _ _ (by omega))) ?_
          refine LW.e rfl (Ef.call (Rf.crash B p q a c D.secs.length D.pend.length false _ o.keep o.t0 o.t1 D.secs D.pend hD (by omega) hk) Try.func28 rfl rfl rfl ?_)
          rintro _ _ ⟨p1, a1, rfl, rfl⟩
          try simp only [List.cons_append, List.nil_append]
          refine LW.e0 rfl (Ef.store [_, _] (by kernel_rfl) rfl rfl rfl rfl (by simp) ?_)
          try simp only [splice, List.length_cons, List.length_nil, List.drop_succ_cons, List.cons_append, List.take_succ_cons, List.take_zero, List.drop_zero, List.nil_append, List.append_nil]
          refine LW.q rfl (Qt.assign rfl) ?_
          refine LW.done ?_
          rw [lays_amt ⟨D.secs, D.pend⟩ _ _ _ _ (Nat.le_refl _)]
          refine T.ret ?_
          exact ⟨.inl rfl, _, _, res [_, _] rfl ⟨rvA [_, _] (by kernel_rfl) rfl ⟨rfl, rfl, trivial⟩, rvT rfl, trivial⟩, StepR.mk (D' := D.crash o.keep o.t0 o.t1) D.secs.length 0 (D.lays (amount o.keep o.t0 o.t1) D.pend.length) [] rfl rfl (DD.lays_ok hD _ (amount_le _ _ _) _).2.symm rfl (hD.laid _ (amount_le _ _ _) _) (by simp [DD.crash]), Sub.any⟩
        · skip
          refine T.skip ?_
          refine T.seq ?_
          refine T.region ?_
          first | refine LW.q rfl (Qt.loadAgg [_, _] (by kernel_rfl) rfl ⟨rfl, rfl, trivial⟩) ?_ | refine LW.q rfl (Qt.loadAgg [_, _] (by kernel_rfl) rfl (by exact rdl_flat _ _ _ (by intros; rfl) _ (by omega))) ?_
          refine LW.e0 rfl (Ef.store [_, _] (by kernel_rfl) rfl rfl rfl rfl (by simp) ?_)
          try simp only [splice, List.length_cons, List.length_nil, List.drop_succ_cons, List.cons_append, List.take_succ_cons, List.take_zero, List.drop_zero, List.nil_append, List.append_nil]
          refine LW.q rfl (Qt.assign rfl) ?_
          refine LW.done ?_
          refine T.ret ?_
          exact ⟨.inl rfl, _, _, res [_, _] rfl ⟨rvA [_, _] (by kernel_rfl) rfl ⟨rfl, rfl, trivial⟩, rvT rfl, trivial⟩, StepR.mk _ _ D.secs D.pend rfl rfl rfl rfl hD (by omega), Sub.any⟩
end Go.Proofs.Ytdjfibkpmmcefaa
