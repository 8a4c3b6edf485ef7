/- The statement DiskPlays: its functions step and looks. Conditions: sizes. -/
import Derived.Test.YtdjfibkpmmcefaaRfD
import Derived.Test.YtdjfibkpmmcefaaDkF
namespace Go.Proofs.Ytdjfibkpmmcefaa
open Go.RowKit

theorem layW_zero (S : List (List UInt8)) (n : Nat) (d : List UInt8) : layW S n 0 d = S := by
  unfold layW
  rw [List.take_zero, List.drop_zero, List.nil_append]
  by_cases h : n < S.length
  · rw [List.getD_eq_getElem?_getD, List.getElem?_eq_getElem h, Option.getD_some, List.set_getElem_self]
  · rw [List.set_eq_of_length_le (by omega)]
theorem lays_amt (D : DD) (keep : List Bool) (tear at_ : Int) : ∀ k, k ≤ D.pend.length → D.lays (fun i => some (rAmt false keep tear at_ i)) k = D.lays (amount keep tear at_) k
  | 0, _ => rfl
  | k + 1, h => by
    have ih := lays_amt D keep tear at_ k (by omega)
    rw [DD.lays_some D (fun i => some (rAmt false keep tear at_ i)) k _ (by omega) rfl, ih]
    by_cases h1 : (k : Int) = tear
    · rw [DD.lays_some D (amount keep tear at_) k (clampN at_) (by omega) (by simp [amount, h1])]
      simp [rAmt, h1]
    · by_cases h2 : keep.getD k false = true
      · rw [DD.lays_some D (amount keep tear at_) k 256 (by omega) (by unfold amount; rw [if_neg h1, if_pos h2])]
        congr 1
        unfold rAmt
        rw [if_neg (by simp), if_neg h1, if_pos h2]
      · rw [DD.lays_none D (amount keep tear at_) k (by omega) (by unfold amount; rw [if_neg h1, if_neg h2])]
        have : rAmt false keep tear at_ k = 0 := by
          unfold rAmt
          rw [if_neg (by simp), if_neg h1, if_neg h2]
        rw [this, layW_zero]
theorem lays_all (D : DD) (keep : List Bool) (tear at_ : Int) (k : Nat) : D.lays (fun i => some (rAmt true keep tear at_ i)) k = D.lays (fun _ => some 256) k := by
  have : (fun i => some (rAmt true keep tear at_ i)) = fun _ => some 256 := by funext i; simp [rAmt]
  rw [this]

theorem RoS.form {B : Base} {v : Value} {cs : List Value} {n : Nat} (h : RoS B v cs) (hn : cs.length = n) : ∃ a cap, v = .slice a n cap := by
  obtain ⟨a, cap, rfl, _⟩ := h
  exact ⟨a, cap, by rw [hn]⟩
theorem RoS.str {B : Base} {S : List Assn} {v : Value} {cs : List Value} (h : RoS B v cs) : ∀ w, Own B w S → ∃ fp, Reads w v cs fp := fun _ ho => let ⟨fp, h1, _⟩ := h.reads ho; ⟨fp, h1⟩

abbrev rA (p q : Option Addr) (a c : Nat) (D : DD) : Value := .agg #[.slice p D.secs.length a, .slice q D.pend.length c]
abbrev rL (p q : Option Addr) (a c : Nat) (D : DD) : List Assn := [rS (.slice p D.secs.length a) D.secs.length D.secs, rW (.slice q D.pend.length c) D.pend.length D.pend]

set_option maxRecDepth 100000 in
theorem Rf.looks (B : Base) (b : Nat) (D : DD) (p q : Option Addr) (a c : Nat) (hD : D.Ok) (hp : D.pend.length < 2 ^ 32) :
    Fn Try.prog B 20 #[.pointer (some ⟨b, 0, none⟩), rA p q a c D] [dskA b D, rS (.slice p D.secs.length a) D.secs.length D.secs, rW (.slice q D.pend.length c) D.pend.length D.pend] (fun v l => v = .bool true ∧ l = []) := by
  have hmax := hD.max
  refine Fn.enter2 53 Try.func20 rfl rfl (Nat.le_of_ble_eq_true rfl) (fun F => ?_)
  try simp only [List.cons_append, List.nil_append]
  refine T.seq ?_
  refine T.region ?_
  refine LW.e rfl (Ef.box [_, _] rfl rfl ?_)
  intro g3
  refine LW.q rfl (Qt.assign rfl) ?_
  refine LW.done ?_
  refine T.seq ?_
  refine T.seq ?_
  refine T.region ?_
  refine LW.q rfl (Qt.fieldAddr0 (by kernel_rfl) rfl) ?_
  first | refine LW.q rfl (Qt.load (by kernel_rfl) rfl rfl) ?_ | refine LW.q rfl (Qt.load (by kernel_rfl) rfl (map_at _ _ _ (by omega))) ?_ | refine LW.q rfl (Qt.load (by kernel_rfl) rfl (flat_cell0 _ _ _ (by intros; rfl) _ (by omega) (by rfl))) ?_ | refine LW.q rfl (Qt.load (by kernel_rfl) rfl (flat_cell _ _ _ (by intros; rfl) _ _ (by omega) (by rfl))) ?_ | refine LW.q rfl (Qt.load (by kernel_rfl) rfl (bytes_at _ _ (by omega))) ?_
  refine LW.q rfl (Qt.len (e := 9) (sz := 1) (by kernel_rfl) rfl) ?_
  refine LW.q rfl (Qt.move rfl) ?_
  refine LW.done ?_
  refine T.block ?_
  refine T.loop (fun mz fz lz => ∃ (f0 : Fr) (k : Nat), (k ≤ D.secs.length) ∧ mz = D.secs.length - k ∧ fz = (upd (upd (upd (upd f0 0 (.pointer (some ⟨b, 0, none⟩))) 3 (.pointer (some ⟨g3, 0, none⟩))) 12 (.int .i64 D.secs.length)) 13 (.int .i64 k)) ∧ lz = [dskA b D, blk g3 [.slice p D.secs.length a, .slice q D.pend.length c] 41, rS (.slice p D.secs.length a) D.secs.length D.secs, rW (.slice q D.pend.length c) D.pend.length D.pend] ++ F) ?_ ?_
  · refine ⟨_, _, ⟨_, 0, Nat.zero_le _, rfl, (updS rfl (updS rfl (updS rfl (updS rfl rfl)))), rfl⟩, Sub.any⟩
  · skip
    rintro mz fz lz ⟨f0, k, hk, rfl, rfl, rfl⟩
    try simp only [List.cons_append, List.nil_append]
    refine T.seq ?_
    refine T.region ?_
    refine LW.q rfl (Qt.lss rfl rfl) ?_
    refine LW.done ?_
    refine T.seq ?_
    refine T.condP rfl (fun hlt => ?_) (fun hlt => ?_)
    · skip
      have hrl : (D.read k).length = 256 := hD.readK k (by omega) _ (Nat.le_refl _)
      refine T.skip ?_
      refine T.seq ?_
      refine T.block ?_
      refine T.seq ?_
      refine T.region ?_
      refine LW.q rfl (Qt.move rfl) ?_
      refine LW.q rfl (Qt.assign rfl) ?_
      refine LW.done ?_
      refine T.seq ?_
      refine T.region ?_
      refine LW.q rfl (Qt.move rfl) ?_
      refine LW.q rfl (Qt.move rfl) ?_
      refine LW.e rfl (Ef.call (Dk.readF B b D k _ rfl (by omega) hp) Try.func13 rfl rfl rfl ?_)
      rintro _ _ ⟨g, cap, rfl, rfl⟩
      try simp only [List.cons_append, List.nil_append]
      refine LW.q rfl (Qt.move rfl) ?_
      refine LW.q rfl (Qt.extract rfl rfl) ?_
      refine LW.q rfl (Qt.extract rfl rfl) ?_
      refine LW.q rfl (Qt.assign rfl) ?_
      refine LW.q rfl (Qt.assign rfl) ?_
      refine LW.done ?_
      refine T.seq ?_
      refine T.region ?_
      first | refine LW.q rfl (Qt.loadAgg [_, _] (by kernel_rfl) rfl ⟨rfl, rfl, trivial⟩) ?_ | refine LW.q rfl (Qt.loadAgg [_, _] (by kernel_rfl) rfl (by exact rdl_flat _ _ _ (by intros; rfl) _ (by omega))) ?_
      refine LW.q rfl (Qt.move rfl) ?_
      refine LW.e rfl (Ef.call (Rf.read B p q a c D.secs.length D.pend.length _ k rfl D.secs D.pend (by omega) hmax hp) Try.func27 rfl rfl rfl ?_)
      rintro _ _ ⟨rfl, rfl⟩
      try simp only [List.cons_append, List.nil_append]
      refine LW.q rfl (Qt.move rfl) ?_
      refine LW.q rfl (Qt.extract rfl rfl) ?_
      refine LW.q rfl (Qt.extract rfl rfl) ?_
      refine LW.q rfl (Qt.assign rfl) ?_
      refine LW.q rfl (Qt.assign rfl) ?_
      refine LW.done ?_
      refine T.seq ?_
      refine T.region ?_
      refine LW.q rfl (Qt.move rfl) ?_
      refine LW.q rfl (Qt.neq rfl rfl) ?_
      refine LW.q rfl (Qt.move rfl) ?_
      first | refine LW.gF (t := 30) rfl rfl ?_ | refine LW.gF (t := 30) rfl (decide_eq_false (by simp)) ?_ | refine LW.gF (t := 30) rfl (by simp) ?_
      refine LW.q rfl (Qt.move rfl) ?_
      refine LW.q rfl (Qt.str (D.read k) (by kernel_rfl) (by kernel_rfl) rfl (fun _ ho => ho.reads_row hrl)) ?_
      refine LW.q rfl (Qt.move rfl) ?_
      refine LW.q rfl (Qt.neqS rfl rfl) ?_
      refine LW.q rfl (Qt.pick rfl rfl) ?_
      refine LW.done ?_
      first | refine T.condF rfl ?_ | refine T.condPF rfl (by simp) ?_ | refine T.condBF rfl (by simp) ?_
      refine T.skip ?_
      refine T.region ?_
      refine LW.q rfl (Qt.add rfl rfl (wr64 (by omega) (by omega))) ?_
      refine LW.q rfl (Qt.move rfl) ?_
      refine LW.done ?_
      refine ⟨_, ?_, _, ⟨_, k + 1, by omega, rfl, (updS rfl (updS rfl (updS rfl (updS rfl rfl)))), rfl⟩, Sub.any⟩
      first | omega | (simp; omega)
    · skip
      refine T.exit ?_
      refine T.seq ?_
      refine T.drawBl 16 none (by kernel_rfl) (Nat.le_of_ble_eq_true rfl) (by kernel_rfl) ?_
      refine RW.q 0 rfl rfl (by kernel_rfl) Sub.any (Qt.move rfl) ?_
      refine RW.q 2 rfl rfl (by kernel_rfl) Sub.any (Qt.fieldAddr (off := 1) (by kernel_rfl) rfl) ?_
      first | refine RW.q 3 rfl rfl (by kernel_rfl) Sub.any (Qt.load (by kernel_rfl) rfl rfl) ?_ | refine RW.q 3 rfl rfl (by kernel_rfl) Sub.any (Qt.load (by kernel_rfl) rfl (map_at _ _ _ (by omega))) ?_ | refine RW.q 3 rfl rfl (by kernel_rfl) Sub.any (Qt.load (by kernel_rfl) rfl (flat_cell0 _ _ _ (by intros; rfl) _ (by omega) (by rfl))) ?_ | refine RW.q 3 rfl rfl (by kernel_rfl) Sub.any (Qt.load (by kernel_rfl) rfl (flat_cell _ _ _ (by intros; rfl) _ _ (by omega) (by rfl))) ?_ | refine RW.q 3 rfl rfl (by kernel_rfl) Sub.any (Qt.load (by kernel_rfl) rfl (bytes_at _ _ (by omega))) ?_
      refine RW.q 4 rfl rfl (by kernel_rfl) Sub.any (Qt.len (e := 76) (sz := 2) (by kernel_rfl) rfl) ?_
      refine RW.one 1 (by kernel_rfl) ?_
      refine RO.eS rfl rfl (Ef.call (Dk.pendingF B b D) Try.func14 rfl rfl rfl ?_)
      rintro _ _ ⟨rfl, rfl⟩
      try simp only [List.cons_append, List.nil_append]
      refine ⟨Sub.any, ?_⟩
      refine RW.q 5 rfl rfl (by kernel_rfl) Sub.any (Qt.eql rfl rfl) ?_
      refine RW.q 6 rfl rfl (by kernel_rfl) Sub.any (Qt.move rfl) ?_
      first | refine RW.gT (t := 43) rfl rfl ?_ | refine RW.gT (t := 43) rfl (decide_eq_true (by omega)) ?_ | refine RW.gT (t := 43) rfl (by omega) ?_
      refine RW.q 7 rfl rfl (by kernel_rfl) Sub.any (Qt.move rfl) ?_
      refine RW.q 8 rfl rfl (by kernel_rfl) Sub.any (Qt.nilCheck rfl) ?_
      refine RW.q 9 rfl rfl (by kernel_rfl) Sub.any (Qt.fieldAddr0 (by kernel_rfl) rfl) ?_
      refine RW.q 11 rfl rfl (by kernel_rfl) Sub.any (Qt.fieldAddr0 (by kernel_rfl) rfl) ?_
      first | refine RW.q 12 rfl rfl (by kernel_rfl) Sub.any (Qt.load (by kernel_rfl) rfl rfl) ?_ | refine RW.q 12 rfl rfl (by kernel_rfl) Sub.any (Qt.load (by kernel_rfl) rfl (map_at _ _ _ (by omega))) ?_ | refine RW.q 12 rfl rfl (by kernel_rfl) Sub.any (Qt.load (by kernel_rfl) rfl (flat_cell0 _ _ _ (by intros; rfl) _ (by omega) (by rfl))) ?_ | refine RW.q 12 rfl rfl (by kernel_rfl) Sub.any (Qt.load (by kernel_rfl) rfl (flat_cell _ _ _ (by intros; rfl) _ _ (by omega) (by rfl))) ?_ | refine RW.q 12 rfl rfl (by kernel_rfl) Sub.any (Qt.load (by kernel_rfl) rfl (bytes_at _ _ (by omega))) ?_
      refine RW.q 13 rfl rfl (by kernel_rfl) Sub.any (Qt.len (e := 9) (sz := 1) (by kernel_rfl) rfl) ?_
      refine RW.one 10 (by kernel_rfl) ?_
      refine RO.eS rfl rfl (Ef.call (Dk.sectorsF B b D) Try.func22 rfl rfl rfl ?_)
      rintro _ _ ⟨rfl, rfl⟩
      try simp only [List.cons_append, List.nil_append]
      refine ⟨Sub.any, ?_⟩
      refine RW.q 14 rfl rfl (by kernel_rfl) Sub.any (Qt.eql rfl rfl) ?_
      refine RW.q 15 rfl rfl (by kernel_rfl) Sub.any (Qt.pick rfl rfl) ?_
      refine RW.done (by rfl) ?_
      simp only [List.drop_succ_cons, List.drop_zero, List.drop_nil]
      refine LW.q rfl (Qt.assign rfl) ?_
      refine LW.done ?_
      refine T.ret ?_
      exact ⟨.inl rfl, _, _, res [_] rfl ⟨rvT rfl, trivial⟩, ⟨by simp; rfl, rfl⟩, Sub.any⟩
end Go.Proofs.Ytdjfibkpmmcefaa
