/- The document's disk (annalsref01): walks of blank, Copy, New, Put, Read, Crash. Conditions: sizes, as each says. -/
import Derived.Test.YtdjfibkpmmcefaaSlE
namespace Go.Proofs.Ytdjfibkpmmcefaa
open Go.RowKit

abbrev strV (d : List UInt8) : Value := .string (strOf d)
def rpV (p : Nat × List UInt8) : List Value := [.int .i64 p.1, strV p.2]
theorem one_strV {l : List (List UInt8)} : ∀ v ∈ l.map strV, v.oneCell' = true := by
  intro v hv; obtain ⟨d, _, rfl⟩ := List.mem_map.1 hv; rfl
theorem one_rpV {l : List (Nat × List UInt8)} : ∀ v ∈ l.flatMap rpV, v.oneCell' = true := by
  intro v hv
  obtain ⟨p, _, hp⟩ := List.mem_flatMap.1 hv
  simp only [rpV, List.mem_cons, List.not_mem_nil, or_false] at hp
  rcases hp with rfl | rfl <;> rfl
theorem Rf.elemS : ElemOk Try.prog 38 9 1 16 := .mk' (.string ⟨#[]⟩) Try.underlying38 (by kernel_rfl) rfl (by omega)
theorem Rf.elemW : ElemOk Try.prog 39 76 2 24 := .mk' (.agg #[.int .i64 0, .string ⟨#[]⟩]) Try.underlying39 (by kernel_rfl) rfl (by omega)

/-- The document's disk as two slices. -/
abbrev rS (v : Value) (n : Nat) (secs : List (List UInt8)) : Assn := row v 9 1 n (secs.map strV)
abbrev rW (v : Value) (n : Nat) (pend : List (Nat × List UInt8)) : Assn := row v 76 2 n (pend.flatMap rpV)
theorem Rf.nilS {B : Base} {w : World} {l : List Assn} (h : Own B w l) : Own B w (rS (.slice none 0 0) 0 [] :: l) := h.row_nil _ _
theorem Rf.nilW {B : Base} {w : World} {l : List Assn} (h : Own B w l) : Own B w (rW (.slice none 0 0) 0 [] :: l) := h.row_nil _ _

abbrev sl (p : Option Addr) (n c : Nat) : Value := .slice p n c
set_option maxRecDepth 100000 in
theorem Rf.copy (B : Base) (p q : Option Addr) (a b n m : Nat) (secs : List (List UInt8)) (pend : List (Nat × List UInt8)) (hs : n ≤ 4096) (hp : m < 2 ^ 32) :
    Fn Try.prog B 29 #[.agg #[.slice p n a, .slice q m b]] [rS (.slice p n a) n secs, rW (.slice q m b) m pend] (fun v l => ∃ p' a' q' b', v = .agg #[.slice p' n a', .slice q' m b'] ∧ l = [rS (.slice p' n a') n secs, rW (.slice q' m b') m pend, rS (.slice p n a) n secs, rW (.slice q m b) m pend]) := by
  refine Fn.enter1 18 Try.func29 rfl rfl (Nat.le_of_ble_eq_true rfl) (fun F => ?_)
  try simp only [List.cons_append, List.nil_append]
  refine T.seq ?_
  refine T.region ?_
  refine LW.e rfl (Ef.box [_, _] rfl rfl ?_)
  intro g1
  refine LW.e rfl (Ef.alloc [.slice none 0 0, .slice none 0 0] (by unfold zeroB; kernel_rfl) ?_)
  intro g2
  refine LW.done ?_
  refine T.seq ?_
  refine T.region ?_
  refine LW.q rfl (Qt.build [(0, 1), (1, 1)] [.slice none 0 0, .slice none 0 0] [_, _] [] (by kernel_rfl) (by unfold zeroB; kernel_rfl) rfl rfl) ?_
  refine LW.e rfl (Ef.alloc [.slice none 0 0, .slice none 0 0] (by unfold zeroB; kernel_rfl) ?_)
  intro g3
  refine LW.e0 rfl (Ef.store [_, _] (by kernel_rfl) rfl rfl rfl rfl (by simp) ?_)
  try simp only [splice, List.length_cons, List.length_nil, List.drop_succ_cons, List.cons_append, List.take_succ_cons, List.take_zero, List.drop_zero, List.nil_append, List.append_nil]
  refine LW.done ?_
  refine T.seq ?_
  refine T.region ?_
  refine LW.q rfl (Qt.fieldAddr0 (by kernel_rfl) rfl) ?_
  first | refine LW.q rfl (Qt.load (by kernel_rfl) rfl rfl) ?_ | refine LW.q rfl (Qt.load (by kernel_rfl) rfl (map_at _ _ _ (by omega))) ?_ | refine LW.q rfl (Qt.load (by kernel_rfl) rfl (flat_cell0 _ _ _ (by intros; rfl) _ (by omega) (by rfl))) ?_ | refine LW.q rfl (Qt.load (by kernel_rfl) rfl (flat_cell _ _ _ (by intros; rfl) _ _ (by omega) (by rfl))) ?_ | refine LW.q rfl (Qt.load (by kernel_rfl) rfl (bytes_at _ _ (by omega))) ?_
  refine LW.q rfl (Qt.fieldAddr0 (by kernel_rfl) rfl) ?_
  first | refine LW.q rfl (Qt.load (by kernel_rfl) rfl rfl) ?_ | refine LW.q rfl (Qt.load (by kernel_rfl) rfl (map_at _ _ _ (by omega))) ?_ | refine LW.q rfl (Qt.load (by kernel_rfl) rfl (flat_cell0 _ _ _ (by intros; rfl) _ (by omega) (by rfl))) ?_ | refine LW.q rfl (Qt.load (by kernel_rfl) rfl (flat_cell _ _ _ (by intros; rfl) _ _ (by omega) (by rfl))) ?_ | refine LW.q rfl (Qt.load (by kernel_rfl) rfl (bytes_at _ _ (by omega))) ?_
  refine LW.e rfl (Ef.appendNil Rf.elemS rfl rfl (SrcOf.row (by kernel_rfl) one_strV) (by unfold maxLen; omega) (by omega) ?_)
  rintro p1 c1 hp1
  try simp only [List.cons_append, List.nil_append]
  refine LW.q rfl (Qt.fieldAddr0 (by kernel_rfl) rfl) ?_
  refine LW.e0 rfl (Ef.store1 (by kernel_rfl) rfl rfl rfl (by first | (simp; done) | (simp; omega)) ?_)
  try simp only [List.set_cons_zero, List.set_cons_succ]
  refine LW.done ?_
  refine T.seq ?_
  refine T.region ?_
  refine LW.q rfl (Qt.fieldAddr (off := 1) (by kernel_rfl) rfl) ?_
  first | refine LW.q rfl (Qt.load (by kernel_rfl) rfl rfl) ?_ | refine LW.q rfl (Qt.load (by kernel_rfl) rfl (map_at _ _ _ (by omega))) ?_ | refine LW.q rfl (Qt.load (by kernel_rfl) rfl (flat_cell0 _ _ _ (by intros; rfl) _ (by omega) (by rfl))) ?_ | refine LW.q rfl (Qt.load (by kernel_rfl) rfl (flat_cell _ _ _ (by intros; rfl) _ _ (by omega) (by rfl))) ?_ | refine LW.q rfl (Qt.load (by kernel_rfl) rfl (bytes_at _ _ (by omega))) ?_
  refine LW.q rfl (Qt.fieldAddr (off := 1) (by kernel_rfl) rfl) ?_
  first | refine LW.q rfl (Qt.load (by kernel_rfl) rfl rfl) ?_ | refine LW.q rfl (Qt.load (by kernel_rfl) rfl (map_at _ _ _ (by omega))) ?_ | refine LW.q rfl (Qt.load (by kernel_rfl) rfl (flat_cell0 _ _ _ (by intros; rfl) _ (by omega) (by rfl))) ?_ | refine LW.q rfl (Qt.load (by kernel_rfl) rfl (flat_cell _ _ _ (by intros; rfl) _ _ (by omega) (by rfl))) ?_ | refine LW.q rfl (Qt.load (by kernel_rfl) rfl (bytes_at _ _ (by omega))) ?_
  refine LW.e rfl (Ef.appendNil Rf.elemW rfl rfl (SrcOf.row (by kernel_rfl) one_rpV) (by unfold maxLen; omega) (by omega) ?_)
  rintro p2 c2 hp2
  try simp only [List.cons_append, List.nil_append]
  refine LW.q rfl (Qt.fieldAddr (off := 1) (by kernel_rfl) rfl) ?_
  refine LW.e0 rfl (Ef.store1 (by kernel_rfl) rfl rfl rfl (by first | (simp; done) | (simp; omega)) ?_)
  try simp only [List.set_cons_zero, List.set_cons_succ]
  refine LW.done ?_
  refine T.seq ?_
  refine T.region ?_
  first | refine LW.q rfl (Qt.loadAgg [_, _] (by kernel_rfl) rfl ⟨rfl, rfl, trivial⟩) ?_ | refine LW.q rfl (Qt.loadAgg [_, _] (by kernel_rfl) rfl (by exact rdl_flat _ _ _ (by intros; rfl) _ (by omega))) ?_
  refine LW.e0 rfl (Ef.store [_, _] (by kernel_rfl) rfl rfl rfl rfl (by simp) ?_)
  try simp only [splice, List.length_cons, List.length_nil, List.drop_succ_cons, List.cons_append, List.take_succ_cons, List.take_zero, List.drop_zero, List.nil_append, List.append_nil]
  refine LW.done ?_
  refine T.ret ?_
  exact ⟨.inl rfl, _, _, res [_] rfl ⟨rvA [_, _] (by kernel_rfl) rfl ⟨rfl, rfl, trivial⟩, trivial⟩, ⟨_, _, _, _, rfl, rfl⟩, Sub.any⟩
end Go.Proofs.Ytdjfibkpmmcefaa
