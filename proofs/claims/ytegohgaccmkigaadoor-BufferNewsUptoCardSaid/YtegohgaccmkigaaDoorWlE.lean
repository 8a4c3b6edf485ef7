/- bytes.Clone. Conditions: that what is handed in can be read. -/
import Derived.Test.YtegohgaccmkigaaDoorWlD
set_option linter.unusedSimpArgs false
set_option linter.unusedVariables false
namespace Go.Proofs.YtegohgaccmkigaaDoor
open Go.RowKit

set_option maxHeartbeats 1000000 in
set_option maxRecDepth 100000 in
theorem Bc.clone (B : Base) (S : List Assn) (v : Value) (b : List UInt8) (m : Nat) (hm : b.length = m) (hv : RdV B S v (bytesV b)) (hb : m < 2 ^ 40) : Fn Tryd.prog B 37 #[v] S (fun u l => ∃ p c, u = .slice p m c ∧ (0 < m → ∃ g, p = some ⟨g, 0, none⟩) ∧ l = rB (.slice p m c) m b :: S) := by
  subst hm
  obtain ⟨a, c, rfl⟩ := hv.form (m := b.length) (by simp)
  refine Fn.enter1 8 Tryd.func37 rfl rfl (Nat.le_of_ble_eq_true rfl) (fun F => ?_)
  try simp only [List.cons_append, List.nil_append]
  refine T.seq ?_
  refine T.region ?_
  refine LW.q rfl (Qt.assign rfl) ?_
  refine LW.done ?_
  refine T.seq ?_
  refine T.seq ?_
  refine T.region ?_
  refine LW.q rfl (Qt.move rfl) ?_
  refine LW.q rfl (Qt.eqlSl (by kernel_rfl) rfl rfl) ?_
  refine LW.done ?_
  refine T.cond rfl (fun h => ?_) (fun h => ?_)
  · skip
    have hb0 : b = [] := by rcases Nat.eq_zero_or_pos b.length with h0 | h0; exact List.eq_nil_of_length_eq_zero h0; obtain ⟨g, o, rfl, _⟩ := hv.at h0; cases h
    subst hb0
    refine T.conv (l' := rB (.slice none ([] : List UInt8).length 0) ([] : List UInt8).length [] :: (S ++ F)) (fun w ho => ho.row_nil _ _) ?_
    refine T.seq ?_
    refine T.region ?_
    refine LW.q rfl (Qt.assign rfl) ?_
    refine LW.done ?_
    refine T.ret ?_
    exact ⟨.inl rfl, _, _, res [_] rfl ⟨rvT rfl, trivial⟩, ⟨none, 0, rfl, fun h => by simp at h, rfl⟩, Sub.any⟩
  · skip
    refine T.skip ?_
    refine T.seq ?_
    refine T.region ?_
    refine LW.e rfl (Ef.empty Cd.elemB ?_)
    rintro g5
    try simp only [List.cons_append, List.nil_append]
    refine LW.q rfl (Qt.move rfl) ?_
    refine LW.e rfl (Ef.append Cd.elemB rfl rfl (SrcOf.rd (m := b.length) (hv.mono (fun w ho => ho.tl.drop)) (by kernel_rfl) (by simp) one_bytesV) (by unfold maxLen; omega) (by omega) ?_)
    rintro p1 c1 hp1
    try simp only [List.cons_append, List.nil_append]
    simp only [Nat.zero_add, List.nil_append]
    refine LW.q rfl (Qt.assign rfl) ?_
    refine LW.done ?_
    refine T.ret ?_
    exact ⟨.inl rfl, _, _, res [_] rfl ⟨rvT rfl, trivial⟩, ⟨_, _, rfl, fun h => hp1 (by omega), rfl⟩, Sub.any⟩
end Go.Proofs.YtegohgaccmkigaaDoor
