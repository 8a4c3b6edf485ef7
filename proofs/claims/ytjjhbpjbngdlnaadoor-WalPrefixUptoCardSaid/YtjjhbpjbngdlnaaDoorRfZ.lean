/- The texts RfA RfB RfC RfD RfE, one behind the other. Conditions: as each theorem says. -/
import Derived.Test.YtjjhbpjbngdlnaaDoorSlE
import Derived.Test.YtjjhbpjbngdlnaaDoorDkZ
set_option linter.unusedSimpArgs false
set_option linter.unusedVariables false
/- The document's disk (annalsref01): walks of blank, Copy, New, Put, Read, Crash. Conditions: sizes, as each says. -/
namespace Go.Proofs.YtjjhbpjbngdlnaaDoor
open Go.RowKit

abbrev strW (d : List UInt8) : Value := .string (strOf d)
def rpV (p : Nat × List UInt8) : List Value := [.int .i64 p.1, strW p.2]
theorem one_strW {l : List (List UInt8)} : ∀ v ∈ l.map strW, v.oneCell' = true := by
  intro v hv; obtain ⟨d, _, rfl⟩ := List.mem_map.1 hv; rfl
theorem one_rpV {l : List (Nat × List UInt8)} : ∀ v ∈ l.flatMap rpV, v.oneCell' = true := by
  intro v hv
  obtain ⟨p, _, hp⟩ := List.mem_flatMap.1 hv
  simp only [rpV, List.mem_cons, List.not_mem_nil, or_false] at hp
  rcases hp with rfl | rfl <;> rfl
theorem Rf.elemS : ElemOk Tryd.prog 36 9 1 16 := .mk' (.string ⟨#[]⟩) Tryd.underlying36 (by kernel_rfl) rfl (by omega)
theorem Rf.elemW : ElemOk Tryd.prog 61 133 2 24 := .mk' (.agg #[.int .i64 0, .string ⟨#[]⟩]) Tryd.underlying61 (by kernel_rfl) rfl (by omega)

/-- The document's disk as two slices. -/
abbrev rS (v : Value) (n : Nat) (secs : List (List UInt8)) : Assn := row v 9 1 n (secs.map strW)
abbrev rW (v : Value) (n : Nat) (pend : List (Nat × List UInt8)) : Assn := row v 133 2 n (pend.flatMap rpV)
theorem Rf.nilS {B : Base} {w : World} {l : List Assn} (h : Own B w l) : Own B w (rS (.slice none 0 0) 0 [] :: l) := h.row_nil _ _
theorem Rf.nilW {B : Base} {w : World} {l : List Assn} (h : Own B w l) : Own B w (rW (.slice none 0 0) 0 [] :: l) := h.row_nil _ _

abbrev sl (p : Option Addr) (n c : Nat) : Value := .slice p n c
set_option maxRecDepth 100000 in
theorem Rf.copy (B : Base) (p q : Option Addr) (a b n m : Nat) (secs : List (List UInt8)) (pend : List (Nat × List UInt8)) (hs : n ≤ 4096) (hp : m < 2 ^ 32) :
    Fn Tryd.prog B 71 #[.agg #[.slice p n a, .slice q m b]] [rS (.slice p n a) n secs, rW (.slice q m b) m pend] (fun v l => ∃ p' a' q' b', v = .agg #[.slice p' n a', .slice q' m b'] ∧ l = [rS (.slice p' n a') n secs, rW (.slice q' m b') m pend, rS (.slice p n a) n secs, rW (.slice q m b) m pend]) := by
  refine Fn.enter1 18 Tryd.func71 rfl rfl (Nat.le_of_ble_eq_true rfl) (fun F => ?_)
  try simp only [List.cons_append, List.nil_append]
  refine T.seq ?_
  refine T.region ?_
  refine LW.e rfl (Ef.box [_, _] rfl rfl ?_)
  intro g1
  refine LW.e rfl (Ef.alloc [.slice none 0 0, .slice none 0 0] (by unfold zeroB; kernel_rfl) ?_)
  intro g2
  refine LW.done ?_
  refine T.seq ?_
  refine T.region ?_
  refine LW.q rfl (Qt.build [(0, 1), (1, 1)] [.slice none 0 0, .slice none 0 0] [_, _] [] (by kernel_rfl) (by unfold zeroB; kernel_rfl) rfl rfl) ?_
  refine LW.e rfl (Ef.alloc [.slice none 0 0, .slice none 0 0] (by unfold zeroB; kernel_rfl) ?_)
  intro g3
  refine LW.e0 rfl (Ef.store [_, _] (by kernel_rfl) rfl rfl rfl rfl (by simp) ?_)
  try simp only [splice, List.length_cons, List.length_nil, List.drop_succ_cons, List.cons_append, List.take_succ_cons, List.take_zero, List.drop_zero, List.nil_append, List.append_nil]
  refine LW.done ?_
  refine T.seq ?_
  refine T.region ?_
  refine LW.q rfl (Qt.fieldAddr0 (by kernel_rfl) rfl) ?_
  first | refine LW.q rfl (Qt.load (by kernel_rfl) rfl rfl) ?_ | refine LW.q rfl (Qt.load (by kernel_rfl) rfl (map_at _ _ _ (by omega))) ?_ | refine LW.q rfl (Qt.load (by kernel_rfl) rfl (flat_cell0 _ _ _ (by intros; rfl) _ (by omega) (by rfl))) ?_ | refine LW.q rfl (Qt.load (by kernel_rfl) rfl (flat_cell _ _ _ (by intros; rfl) _ _ (by omega) (by rfl))) ?_ | refine LW.q rfl (Qt.load (by kernel_rfl) rfl (bytes_at _ _ (by omega))) ?_
  refine LW.q rfl (Qt.fieldAddr0 (by kernel_rfl) rfl) ?_
  first | refine LW.q rfl (Qt.load (by kernel_rfl) rfl rfl) ?_ | refine LW.q rfl (Qt.load (by kernel_rfl) rfl (map_at _ _ _ (by omega))) ?_ | refine LW.q rfl (Qt.load (by kernel_rfl) rfl (flat_cell0 _ _ _ (by intros; rfl) _ (by omega) (by rfl))) ?_ | refine LW.q rfl (Qt.load (by kernel_rfl) rfl (flat_cell _ _ _ (by intros; rfl) _ _ (by omega) (by rfl))) ?_ | refine LW.q rfl (Qt.load (by kernel_rfl) rfl (bytes_at _ _ (by omega))) ?_
  refine LW.e rfl (Ef.appendNil Rf.elemS rfl rfl (SrcOf.row (by kernel_rfl) one_strW) (by unfold maxLen; omega) (by omega) ?_)
  rintro p1 c1 hp1
  try simp only [List.cons_append, List.nil_append]
  refine LW.q rfl (Qt.fieldAddr0 (by kernel_rfl) rfl) ?_
  refine LW.e0 rfl (Ef.store1 (by kernel_rfl) rfl rfl rfl (by first | (simp; done) | (simp; omega)) ?_)
  try simp only [List.set_cons_zero, List.set_cons_succ]
  refine LW.done ?_
  refine T.seq ?_
  refine T.region ?_
  refine LW.q rfl (Qt.fieldAddr (off := 1) (by kernel_rfl) rfl) ?_
  first | refine LW.q rfl (Qt.load (by kernel_rfl) rfl rfl) ?_ | refine LW.q rfl (Qt.load (by kernel_rfl) rfl (map_at _ _ _ (by omega))) ?_ | refine LW.q rfl (Qt.load (by kernel_rfl) rfl (flat_cell0 _ _ _ (by intros; rfl) _ (by omega) (by rfl))) ?_ | refine LW.q rfl (Qt.load (by kernel_rfl) rfl (flat_cell _ _ _ (by intros; rfl) _ _ (by omega) (by rfl))) ?_ | refine LW.q rfl (Qt.load (by kernel_rfl) rfl (bytes_at _ _ (by omega))) ?_
  refine LW.q rfl (Qt.fieldAddr (off := 1) (by kernel_rfl) rfl) ?_
  first | refine LW.q rfl (Qt.load (by kernel_rfl) rfl rfl) ?_ | refine LW.q rfl (Qt.load (by kernel_rfl) rfl (map_at _ _ _ (by omega))) ?_ | refine LW.q rfl (Qt.load (by kernel_rfl) rfl (flat_cell0 _ _ _ (by intros; rfl) _ (by omega) (by rfl))) ?_ | refine LW.q rfl (Qt.load (by kernel_rfl) rfl (flat_cell _ _ _ (by intros; rfl) _ _ (by omega) (by rfl))) ?_ | refine LW.q rfl (Qt.load (by kernel_rfl) rfl (bytes_at _ _ (by omega))) ?_
  refine LW.e rfl (Ef.appendNil Rf.elemW rfl rfl (SrcOf.row (by kernel_rfl) one_rpV) (by unfold maxLen; omega) (by omega) ?_)
  rintro p2 c2 hp2
  try simp only [List.cons_append, List.nil_append]
  refine LW.q rfl (Qt.fieldAddr (off := 1) (by kernel_rfl) rfl) ?_
  refine LW.e0 rfl (Ef.store1 (by kernel_rfl) rfl rfl rfl (by first | (simp; done) | (simp; omega)) ?_)
  try simp only [List.set_cons_zero, List.set_cons_succ]
  refine LW.done ?_
  refine T.seq ?_
  refine T.region ?_
  first | refine LW.q rfl (Qt.loadAgg [_, _] (by kernel_rfl) rfl ⟨rfl, rfl, trivial⟩) ?_ | refine LW.q rfl (Qt.loadAgg [_, _] (by kernel_rfl) rfl (by exact rdl_flat _ _ _ (by intros; rfl) _ (by omega))) ?_
  refine LW.e0 rfl (Ef.store [_, _] (by kernel_rfl) rfl rfl rfl rfl (by simp) ?_)
  try simp only [splice, List.length_cons, List.length_nil, List.drop_succ_cons, List.cons_append, List.take_succ_cons, List.take_zero, List.drop_zero, List.nil_append, List.append_nil]
  refine LW.done ?_
  refine T.ret ?_
  exact ⟨.inl rfl, _, _, res [_] rfl ⟨rvA [_, _] (by kernel_rfl) rfl ⟨rfl, rfl, trivial⟩, trivial⟩, ⟨_, _, _, _, rfl, rfl⟩, Sub.any⟩
end Go.Proofs.YtjjhbpjbngdlnaaDoor

/- The document's disk (annalsref01): walks of blank, New, Put, Read. Conditions: sizes, as each says. -/
namespace Go.Proofs.YtjjhbpjbngdlnaaDoor
open Go.RowKit

theorem made_zs : (madeCells (Value.int .u8 0).cells (256 * 1)).toList = bytesV zs := by
  rw [show (Value.int .u8 0).cells = (List.replicate 1 (Value.int .u8 0)).toArray from rfl, made_replicate _ 1 _ (by omega)]
  unfold zs bytesV
  rw [List.map_replicate]
  rfl
set_option maxRecDepth 100000 in
theorem Rf.blank (B : Base) : Fn Tryd.prog B 64 #[] [] (fun v l => v = strW zs ∧ l = []) := by
  have hz : zs.length = 256 := by simp [zs]
  refine Fn.enter0 3 Tryd.func64 rfl rfl (Nat.le_of_ble_eq_true rfl) (fun F => ?_)
  try simp only [List.cons_append, List.nil_append]
  refine T.seq ?_
  refine T.region ?_
  refine LW.q rfl (Qt.assign rfl) ?_
  refine LW.done ?_
  refine T.seq ?_
  refine T.region ?_
  refine LW.e rfl (Ef.make 256 (.int .u8 0) 1 Dk.elemB (by kernel_rfl) rfl rfl rfl rfl (by omega) (by unfold maxLen; omega) ?_)
  rintro g1
  try simp only [List.cons_append, List.nil_append]
  rw [made_zs]
  refine LW.q rfl (Qt.str zs (by kernel_rfl) (by kernel_rfl) rfl (fun _ ho => ho.reads_row hz)) ?_
  refine LW.q rfl (Qt.assign rfl) ?_
  refine LW.done ?_
  refine T.ret ?_
  exact ⟨.inl rfl, _, _, res [_] rfl ⟨rvT rfl, trivial⟩, ⟨rfl, rfl⟩, Sub.any⟩

set_option maxRecDepth 100000 in
theorem Rf.new_no (B : Base) (n : Int) (hn : n < 1 ∨ 4096 < n) : Fn Tryd.prog B 28 #[.int .i64 n] [] (fun v l => v = .tuple #[.agg #[.slice none 0 0, .slice none 0 0], .int .i64 1] ∧ l = []) := by
  refine Fn.enter1 26 Tryd.func28 rfl rfl (Nat.le_of_ble_eq_true rfl) (fun F => ?_)
  try simp only [List.cons_append, List.nil_append]
  refine T.seq ?_
  refine T.region ?_
  refine LW.e rfl (Ef.alloc [.slice none 0 0, .slice none 0 0] (by unfold zeroB; kernel_rfl) ?_)
  intro g2
  refine LW.q rfl (Qt.assign rfl) ?_
  refine LW.done ?_
  refine T.seq ?_
  refine T.seq ?_
  refine T.region ?_
  refine LW.q rfl (Qt.move rfl) ?_
  refine LW.q rfl (Qt.lss rfl rfl) ?_
  refine LW.q rfl (Qt.move rfl) ?_
  refine LW.split (t := 8) rfl (fun h1 => ?_) (fun h1 => ?_)
  · skip
    try replace h1 := of_decide_eq_true h1
    refine LW.s rfl ?_
    refine LW.s rfl ?_
    refine LW.q rfl (Qt.pick rfl rfl) ?_
    refine LW.done ?_
    first | refine T.condT rfl ?_ | refine T.condPT rfl (by omega) ?_ | refine T.condBT rfl (by omega) ?_
    refine T.seq ?_
    refine T.region ?_
    refine LW.q rfl (Qt.build [(0, 1), (1, 1)] [.slice none 0 0, .slice none 0 0] [_, _] [] (by kernel_rfl) (by unfold zeroB; kernel_rfl) rfl rfl) ?_
    refine LW.e0 rfl (Ef.store [_, _] (by kernel_rfl) rfl rfl rfl rfl (by simp) ?_)
    try simp only [splice, List.length_cons, List.length_nil, List.drop_succ_cons, List.cons_append, List.take_succ_cons, List.take_zero, List.drop_zero, List.nil_append, List.append_nil]
    refine LW.q rfl (Qt.assign rfl) ?_
    refine LW.done ?_
    refine T.ret ?_
    exact ⟨.inl rfl, _, _, res [_, _] rfl ⟨rvA [_, _] (by kernel_rfl) rfl ⟨rfl, rfl, trivial⟩, rvT rfl, trivial⟩, ⟨rfl, rfl⟩, Sub.any⟩
  · skip
    try replace h1 := of_decide_eq_false h1
    refine LW.q rfl (Qt.move rfl) ?_
    refine LW.q rfl (Qt.gtr rfl rfl) ?_
    refine LW.q rfl (Qt.pick rfl rfl) ?_
    refine LW.done ?_
    first | refine T.condT rfl ?_ | refine T.condPT rfl (by omega) ?_ | refine T.condBT rfl (by omega) ?_
    refine T.seq ?_
    refine T.region ?_
    refine LW.q rfl (Qt.build [(0, 1), (1, 1)] [.slice none 0 0, .slice none 0 0] [_, _] [] (by kernel_rfl) (by unfold zeroB; kernel_rfl) rfl rfl) ?_
    refine LW.e0 rfl (Ef.store [_, _] (by kernel_rfl) rfl rfl rfl rfl (by simp) ?_)
    try simp only [splice, List.length_cons, List.length_nil, List.drop_succ_cons, List.cons_append, List.take_succ_cons, List.take_zero, List.drop_zero, List.nil_append, List.append_nil]
    refine LW.q rfl (Qt.assign rfl) ?_
    refine LW.done ?_
    refine T.ret ?_
    exact ⟨.inl rfl, _, _, res [_, _] rfl ⟨rvA [_, _] (by kernel_rfl) rfl ⟨rfl, rfl, trivial⟩, rvT rfl, trivial⟩, ⟨rfl, rfl⟩, Sub.any⟩

set_option maxRecDepth 100000 in
theorem Rf.new (B : Base) (n : Nat) (h1 : 1 ≤ n) (h2 : n ≤ 4096) : Fn Tryd.prog B 28 #[.int .i64 n] [] (fun v l => ∃ p c q d, v = .tuple #[.agg #[.slice p n c, .slice q 0 d], .int .i64 0] ∧ l = [rS (.slice p n c) n (List.replicate n zs), rW (.slice q 0 d) 0 []]) := by
  refine Fn.enter1 26 Tryd.func28 rfl rfl (Nat.le_of_ble_eq_true rfl) (fun F => ?_)
  try simp only [List.cons_append, List.nil_append]
  refine T.seq ?_
  refine T.region ?_
  refine LW.e rfl (Ef.alloc [.slice none 0 0, .slice none 0 0] (by unfold zeroB; kernel_rfl) ?_)
  intro g2
  refine LW.q rfl (Qt.assign rfl) ?_
  refine LW.done ?_
  refine T.seq ?_
  refine T.seq ?_
  refine T.region ?_
  refine LW.q rfl (Qt.move rfl) ?_
  refine LW.q rfl (Qt.lss rfl rfl) ?_
  refine LW.q rfl (Qt.move rfl) ?_
  first | refine LW.gF (t := 8) rfl rfl ?_ | refine LW.gF (t := 8) rfl (decide_eq_false (by omega)) ?_ | refine LW.gF (t := 8) rfl (by omega) ?_
  refine LW.q rfl (Qt.move rfl) ?_
  refine LW.q rfl (Qt.gtr rfl rfl) ?_
  refine LW.q rfl (Qt.pick rfl rfl) ?_
  refine LW.done ?_
  first | refine T.condF rfl ?_ | refine T.condPF rfl (by omega) ?_ | refine T.condBF rfl (by omega) ?_
  refine T.conv (fun w ho => Rf.nilS ho) ?_
  refine T.skip ?_
  refine T.seq ?_
  refine T.region ?_
  refine LW.q rfl (Qt.build [(0, 1), (1, 1)] [.slice none 0 0, .slice none 0 0] [_, _] [] (by kernel_rfl) (by unfold zeroB; kernel_rfl) rfl rfl) ?_
  refine LW.e rfl (Ef.alloc [.slice none 0 0, .slice none 0 0] (by unfold zeroB; kernel_rfl) ?_)
  intro g4
  refine LW.e0 rfl (Ef.store [_, _] (by kernel_rfl) rfl rfl rfl rfl (by simp) ?_)
  try simp only [splice, List.length_cons, List.length_nil, List.drop_succ_cons, List.cons_append, List.take_succ_cons, List.take_zero, List.drop_zero, List.nil_append, List.append_nil]
  refine LW.done ?_
  refine T.seq ?_
  refine T.seq ?_
  refine T.region ?_
  refine LW.q rfl (Qt.assign rfl) ?_
  refine LW.done ?_
  refine T.block ?_
  refine T.loop (fun mz fz lz => ∃ (f0 : Fr) (k : Nat) (secs : List (List UInt8)) (p : Option Addr) (c : Nat), (k ≤ n ∧ secs = List.replicate k zs) ∧ mz = n - k ∧ fz = (upd (upd (upd (upd f0 0 (.int .i64 n)) 2 (.pointer (some ⟨g2, 0, none⟩))) 4 (.pointer (some ⟨g4, 0, none⟩))) 5 (.int .i64 k)) ∧ lz = [blk g4 [.slice p k c, .slice none 0 0] 63, rS (.slice p k c) k secs, blk g2 [.slice none 0 0, .slice none 0 0] 63] ++ F) ?_ ?_
  · refine ⟨_, _, ⟨_, 0, [], none, 0, ⟨by simp, rfl⟩, rfl, (updS rfl (updS rfl (updS rfl (updS rfl rfl)))), rfl⟩, Sub.any⟩
  · skip
    rintro mz fz lz ⟨f0, k, secs, p, c, ⟨hk, hz⟩, hmz, rfl, rfl⟩
    subst mz
    try simp only [List.cons_append, List.nil_append]
    refine T.seq ?_
    refine T.seq ?_
    refine T.region ?_
    refine LW.q rfl (Qt.move rfl) ?_
    refine LW.q rfl (Qt.move rfl) ?_
    refine LW.q rfl (Qt.lss rfl rfl) ?_
    refine LW.done ?_
    refine T.condP rfl (fun hlt => ?_) (fun hlt => ?_)
    · skip
      refine T.skip ?_
      refine T.seq ?_
      refine T.block ?_
      refine T.draw 5 ([blk g4 [.slice p k c, .slice none 0 0] 63]) (by kernel_rfl) (Nat.le_of_ble_eq_true rfl) (by kernel_rfl) ?_
      refine RW.q 0 rfl rfl (by kernel_rfl) Sub.any (Qt.fieldAddr0 (by kernel_rfl) rfl) ?_
      first | refine RW.q 1 rfl rfl (by kernel_rfl) Sub.any (Qt.load (by kernel_rfl) rfl rfl) ?_ | refine RW.q 1 rfl rfl (by kernel_rfl) Sub.any (Qt.load (by kernel_rfl) rfl (map_at _ _ _ (by omega))) ?_ | refine RW.q 1 rfl rfl (by kernel_rfl) Sub.any (Qt.load (by kernel_rfl) rfl (flat_cell0 _ _ _ (by intros; rfl) _ (by omega) (by rfl))) ?_ | refine RW.q 1 rfl rfl (by kernel_rfl) Sub.any (Qt.load (by kernel_rfl) rfl (flat_cell _ _ _ (by intros; rfl) _ _ (by omega) (by rfl))) ?_ | refine RW.q 1 rfl rfl (by kernel_rfl) Sub.any (Qt.load (by kernel_rfl) rfl (bytes_at _ _ (by omega))) ?_
      refine RW.one 2 (by kernel_rfl) ?_
      refine RO.eS rfl rfl (Ef.call (Rf.blank B) Tryd.func64 rfl rfl rfl ?_)
      rintro _ _ ⟨rfl, rfl⟩
      try simp only [List.cons_append, List.nil_append]
      refine ⟨Sub.any, ?_⟩
      refine RW.one 3 (by kernel_rfl) ?_
      refine RO.eS rfl rfl (Ef.one [_] (e := 9) (sz := 1) (by kernel_rfl) ⟨.string .empty, by kernel_rfl, rfl⟩ rfl rfl rfl (by omega) (by omega) ?_)
      intro g22
      refine ⟨Sub.any, ?_⟩
      refine RW.one 4 (by kernel_rfl) ?_
      refine RO.eS rfl rfl (Ef.append Rf.elemS rfl rfl (SrcOf.blk (by kernel_rfl) rfl (by simp [Value.oneCell', strW])) (by unfold maxLen; omega) (by omega) ?_)
      rintro p2 c2 hp2
      try simp only [List.cons_append, List.nil_append]
      rw [map_snoc]
      refine ⟨Sub.any, ?_⟩
      refine RW.done (by rfl) ?_
      simp only [List.drop_succ_cons, List.drop_zero, List.drop_nil]
      refine LW.q rfl (Qt.fieldAddr0 (by kernel_rfl) rfl) ?_
      refine LW.e0 rfl (Ef.store1 (by kernel_rfl) rfl rfl rfl (by first | (simp; done) | (simp; omega)) ?_)
      try simp only [List.set_cons_zero, List.set_cons_succ]
      refine LW.done ?_
      refine T.region ?_
      refine LW.q rfl (Qt.move rfl) ?_
      refine LW.q rfl (Qt.add rfl rfl (wr64 (by omega) (by omega))) ?_
      refine LW.q rfl (Qt.assign rfl) ?_
      refine LW.done ?_
      refine ⟨_, ?_, _, ⟨_, k + 1, secs ++ [zs], p2, c2, ⟨by omega, by rw [List.replicate_succ', ← hz]⟩, rfl, (updS rfl (updS rfl (updS rfl (updS rfl rfl)))), rfl⟩, Sub.any⟩
      first | omega | (simp; omega)
    · skip
      have e : k = n := by omega
      subst e
      subst hz
      refine T.conv (fun w ho => Rf.nilW ho) ?_
      refine T.exit ?_
      refine T.seq ?_
      refine T.region ?_
      first | refine LW.q rfl (Qt.loadAgg [_, _] (by kernel_rfl) rfl ⟨rfl, rfl, trivial⟩) ?_ | refine LW.q rfl (Qt.loadAgg [_, _] (by kernel_rfl) rfl (by exact rdl_flat _ _ _ (by intros; rfl) _ (by omega))) ?_
      refine LW.e0 rfl (Ef.store [_, _] (by kernel_rfl) rfl rfl rfl rfl (by simp) ?_)
      try simp only [splice, List.length_cons, List.length_nil, List.drop_succ_cons, List.cons_append, List.take_succ_cons, List.take_zero, List.drop_zero, List.nil_append, List.append_nil]
      refine LW.q rfl (Qt.assign rfl) ?_
      refine LW.done ?_
      refine T.ret ?_
      exact ⟨.inl rfl, _, _, res [_, _] rfl ⟨rvA [_, _] (by kernel_rfl) rfl ⟨rfl, rfl, trivial⟩, rvT rfl, trivial⟩, ⟨_, _, _, _, rfl, rfl⟩, Sub.any⟩
end Go.Proofs.YtjjhbpjbngdlnaaDoor

/- The document's disk (annalsref01): walks of Put and Read. Conditions: sizes, as each says. -/
namespace Go.Proofs.YtjjhbpjbngdlnaaDoor
open Go.RowKit

set_option maxRecDepth 100000 in
theorem Rf.put_range (B : Base) (p q : Option Addr) (a b n m : Nat) (i : Int) (dat : List UInt8) (hn : i < 0 ∨ (n : Int) ≤ i) :
    Fn Tryd.prog B 36 #[.agg #[.slice p n a, .slice q m b], .int .i64 i, .string (strOf dat)] [] (fun v l => v = .tuple #[.agg #[.slice p n a, .slice q m b], .int .i64 1] ∧ l = []) := by
  refine Fn.enter3 34 Tryd.func36 rfl rfl (Nat.le_of_ble_eq_true rfl) (fun F => ?_)
  try simp only [List.cons_append, List.nil_append]
  refine T.seq ?_
  refine T.region ?_
  refine LW.e rfl (Ef.box [_, _] rfl rfl ?_)
  intro g3
  refine LW.e rfl (Ef.alloc [.slice none 0 0, .slice none 0 0] (by unfold zeroB; kernel_rfl) ?_)
  intro g6
  refine LW.q rfl (Qt.assign rfl) ?_
  refine LW.done ?_
  refine T.seq ?_
  refine T.seq ?_
  refine T.region ?_
  refine LW.q rfl (Qt.move rfl) ?_
  refine LW.q rfl (Qt.lss rfl rfl) ?_
  refine LW.q rfl (Qt.move rfl) ?_
  refine LW.split (t := 11) rfl (fun h1 => ?_) (fun h1 => ?_)
  · skip
    try replace h1 := of_decide_eq_true h1
    refine LW.s rfl ?_
    refine LW.s rfl ?_
    refine LW.s rfl ?_
    refine LW.s rfl ?_
    refine LW.s rfl ?_
    refine LW.q rfl (Qt.pick rfl rfl) ?_
    refine LW.done ?_
    first | refine T.condT rfl ?_ | refine T.condPT rfl (by omega) ?_ | refine T.condBT rfl (by omega) ?_
    refine T.seq ?_
    refine T.region ?_
    first | refine LW.q rfl (Qt.loadAgg [_, _] (by kernel_rfl) rfl ⟨rfl, rfl, trivial⟩) ?_ | refine LW.q rfl (Qt.loadAgg [_, _] (by kernel_rfl) rfl (by exact rdl_flat _ _ _ (by intros; rfl) _ (by omega))) ?_
    refine LW.e0 rfl (Ef.store [_, _] (by kernel_rfl) rfl rfl rfl rfl (by simp) ?_)
    try simp only [splice, List.length_cons, List.length_nil, List.drop_succ_cons, List.cons_append, List.take_succ_cons, List.take_zero, List.drop_zero, List.nil_append, List.append_nil]
    refine LW.q rfl (Qt.assign rfl) ?_
    refine LW.done ?_
    refine T.ret ?_
    exact ⟨.inl rfl, _, _, res [_, _] rfl ⟨rvA [_, _] (by kernel_rfl) rfl ⟨rfl, rfl, trivial⟩, rvT rfl, trivial⟩, ⟨rfl, rfl⟩, Sub.any⟩
  · skip
    try replace h1 := of_decide_eq_false h1
    refine LW.q rfl (Qt.move rfl) ?_
    refine LW.q rfl (Qt.fieldAddr0 (by kernel_rfl) rfl) ?_
    first | refine LW.q rfl (Qt.load (by kernel_rfl) rfl rfl) ?_ | refine LW.q rfl (Qt.load (by kernel_rfl) rfl (map_at _ _ _ (by omega))) ?_ | refine LW.q rfl (Qt.load (by kernel_rfl) rfl (flat_cell0 _ _ _ (by intros; rfl) _ (by omega) (by rfl))) ?_ | refine LW.q rfl (Qt.load (by kernel_rfl) rfl (flat_cell _ _ _ (by intros; rfl) _ _ (by omega) (by rfl))) ?_ | refine LW.q rfl (Qt.load (by kernel_rfl) rfl (bytes_at _ _ (by omega))) ?_
    refine LW.q rfl (Qt.len (e := 9) (sz := 1) (by kernel_rfl) rfl) ?_
    refine LW.q rfl (Qt.geq rfl rfl) ?_
    refine LW.q rfl (Qt.pick rfl rfl) ?_
    refine LW.done ?_
    first | refine T.condT rfl ?_ | refine T.condPT rfl (by omega) ?_ | refine T.condBT rfl (by omega) ?_
    refine T.seq ?_
    refine T.region ?_
    first | refine LW.q rfl (Qt.loadAgg [_, _] (by kernel_rfl) rfl ⟨rfl, rfl, trivial⟩) ?_ | refine LW.q rfl (Qt.loadAgg [_, _] (by kernel_rfl) rfl (by exact rdl_flat _ _ _ (by intros; rfl) _ (by omega))) ?_
    refine LW.e0 rfl (Ef.store [_, _] (by kernel_rfl) rfl rfl rfl rfl (by simp) ?_)
    try simp only [splice, List.length_cons, List.length_nil, List.drop_succ_cons, List.cons_append, List.take_succ_cons, List.take_zero, List.drop_zero, List.nil_append, List.append_nil]
    refine LW.q rfl (Qt.assign rfl) ?_
    refine LW.done ?_
    refine T.ret ?_
    exact ⟨.inl rfl, _, _, res [_, _] rfl ⟨rvA [_, _] (by kernel_rfl) rfl ⟨rfl, rfl, trivial⟩, rvT rfl, trivial⟩, ⟨rfl, rfl⟩, Sub.any⟩
set_option maxRecDepth 100000 in
theorem Rf.put_length (B : Base) (p q : Option Addr) (a b n m : Nat) (i : Int) (dat : List UInt8) (h0 : 0 ≤ i) (hn : i < (n : Int)) (hd : dat.length ≠ 256) :
    Fn Tryd.prog B 36 #[.agg #[.slice p n a, .slice q m b], .int .i64 i, .string (strOf dat)] [] (fun v l => v = .tuple #[.agg #[.slice p n a, .slice q m b], .int .i64 10] ∧ l = []) := by
  refine Fn.enter3 34 Tryd.func36 rfl rfl (Nat.le_of_ble_eq_true rfl) (fun F => ?_)
  try simp only [List.cons_append, List.nil_append]
  refine T.seq ?_
  refine T.region ?_
  refine LW.e rfl (Ef.box [_, _] rfl rfl ?_)
  intro g3
  refine LW.e rfl (Ef.alloc [.slice none 0 0, .slice none 0 0] (by unfold zeroB; kernel_rfl) ?_)
  intro g6
  refine LW.q rfl (Qt.assign rfl) ?_
  refine LW.done ?_
  refine T.seq ?_
  refine T.seq ?_
  refine T.region ?_
  refine LW.q rfl (Qt.move rfl) ?_
  refine LW.q rfl (Qt.lss rfl rfl) ?_
  refine LW.q rfl (Qt.move rfl) ?_
  first | refine LW.gF (t := 11) rfl rfl ?_ | refine LW.gF (t := 11) rfl (decide_eq_false (by omega)) ?_ | refine LW.gF (t := 11) rfl (by omega) ?_
  refine LW.q rfl (Qt.move rfl) ?_
  refine LW.q rfl (Qt.fieldAddr0 (by kernel_rfl) rfl) ?_
  first | refine LW.q rfl (Qt.load (by kernel_rfl) rfl rfl) ?_ | refine LW.q rfl (Qt.load (by kernel_rfl) rfl (map_at _ _ _ (by omega))) ?_ | refine LW.q rfl (Qt.load (by kernel_rfl) rfl (flat_cell0 _ _ _ (by intros; rfl) _ (by omega) (by rfl))) ?_ | refine LW.q rfl (Qt.load (by kernel_rfl) rfl (flat_cell _ _ _ (by intros; rfl) _ _ (by omega) (by rfl))) ?_ | refine LW.q rfl (Qt.load (by kernel_rfl) rfl (bytes_at _ _ (by omega))) ?_
  refine LW.q rfl (Qt.len (e := 9) (sz := 1) (by kernel_rfl) rfl) ?_
  refine LW.q rfl (Qt.geq rfl rfl) ?_
  refine LW.q rfl (Qt.pick rfl rfl) ?_
  refine LW.done ?_
  first | refine T.condF rfl ?_ | refine T.condPF rfl (by omega) ?_ | refine T.condBF rfl (by omega) ?_
  refine T.skip ?_
  refine T.seq ?_
  refine T.seq ?_
  refine T.region ?_
  refine LW.q rfl (Qt.move rfl) ?_
  first | refine LW.q rfl (Qt.lenSt (by kernel_rfl) rfl) ?_ | refine LW.q rfl (Qt.lenS (by kernel_rfl) rfl) ?_
  refine LW.q rfl (Qt.neq rfl rfl) ?_
  refine LW.done ?_
  first | refine T.condT rfl ?_ | refine T.condPT rfl (by omega) ?_ | refine T.condBT rfl (by omega) ?_
  refine T.seq ?_
  refine T.region ?_
  first | refine LW.q rfl (Qt.loadAgg [_, _] (by kernel_rfl) rfl ⟨rfl, rfl, trivial⟩) ?_ | refine LW.q rfl (Qt.loadAgg [_, _] (by kernel_rfl) rfl (by exact rdl_flat _ _ _ (by intros; rfl) _ (by omega))) ?_
  refine LW.e0 rfl (Ef.store [_, _] (by kernel_rfl) rfl rfl rfl rfl (by simp) ?_)
  try simp only [splice, List.length_cons, List.length_nil, List.drop_succ_cons, List.cons_append, List.take_succ_cons, List.take_zero, List.drop_zero, List.nil_append, List.append_nil]
  refine LW.q rfl (Qt.assign rfl) ?_
  refine LW.done ?_
  refine T.ret ?_
  exact ⟨.inl rfl, _, _, res [_, _] rfl ⟨rvA [_, _] (by kernel_rfl) rfl ⟨rfl, rfl, trivial⟩, rvT rfl, trivial⟩, ⟨rfl, rfl⟩, Sub.any⟩
set_option maxRecDepth 100000 in
theorem Rf.put (B : Base) (p q : Option Addr) (a b n m : Nat) (i : Int) (j : Nat) (hi : i = j) (dat : List UInt8) (secs : List (List UInt8)) (pend : List (Nat × List UInt8)) (hs : n ≤ 4096) (hp : m + 1 < 2 ^ 32) (hn : j < n) (hd : dat.length = 256) :
    Fn Tryd.prog B 36 #[.agg #[.slice p n a, .slice q m b], .int .i64 i, .string (strOf dat)] [rS (.slice p n a) n secs, rW (.slice q m b) m pend]
      (fun v l => ∃ p' a' q' b', v = .tuple #[.agg #[.slice p' n a', .slice q' (m + 1) b'], .int .i64 0] ∧ l = [rS (.slice p' n a') n secs, rW (.slice q' (m + 1) b') (m + 1) (pend ++ [(j, dat)])]) := by
  subst hi
  refine Fn.enter3 34 Tryd.func36 rfl rfl (Nat.le_of_ble_eq_true rfl) (fun F => ?_)
  try simp only [List.cons_append, List.nil_append]
  refine T.seq ?_
  refine T.region ?_
  refine LW.e rfl (Ef.box [_, _] rfl rfl ?_)
  intro g3
  refine LW.e rfl (Ef.alloc [.slice none 0 0, .slice none 0 0] (by unfold zeroB; kernel_rfl) ?_)
  intro g6
  refine LW.q rfl (Qt.assign rfl) ?_
  refine LW.done ?_
  refine T.seq ?_
  refine T.seq ?_
  refine T.region ?_
  refine LW.q rfl (Qt.move rfl) ?_
  refine LW.q rfl (Qt.lss rfl rfl) ?_
  refine LW.q rfl (Qt.move rfl) ?_
  first | refine LW.gF (t := 11) rfl rfl ?_ | refine LW.gF (t := 11) rfl (decide_eq_false (by omega)) ?_ | refine LW.gF (t := 11) rfl (by omega) ?_
  refine LW.q rfl (Qt.move rfl) ?_
  refine LW.q rfl (Qt.fieldAddr0 (by kernel_rfl) rfl) ?_
  first | refine LW.q rfl (Qt.load (by kernel_rfl) rfl rfl) ?_ | refine LW.q rfl (Qt.load (by kernel_rfl) rfl (map_at _ _ _ (by omega))) ?_ | refine LW.q rfl (Qt.load (by kernel_rfl) rfl (flat_cell0 _ _ _ (by intros; rfl) _ (by omega) (by rfl))) ?_ | refine LW.q rfl (Qt.load (by kernel_rfl) rfl (flat_cell _ _ _ (by intros; rfl) _ _ (by omega) (by rfl))) ?_ | refine LW.q rfl (Qt.load (by kernel_rfl) rfl (bytes_at _ _ (by omega))) ?_
  refine LW.q rfl (Qt.len (e := 9) (sz := 1) (by kernel_rfl) rfl) ?_
  refine LW.q rfl (Qt.geq rfl rfl) ?_
  refine LW.q rfl (Qt.pick rfl rfl) ?_
  refine LW.done ?_
  first | refine T.condF rfl ?_ | refine T.condPF rfl (by omega) ?_ | refine T.condBF rfl (by omega) ?_
  refine T.skip ?_
  refine T.seq ?_
  refine T.seq ?_
  refine T.region ?_
  refine LW.q rfl (Qt.move rfl) ?_
  first | refine LW.q rfl (Qt.lenSt (by kernel_rfl) rfl) ?_ | refine LW.q rfl (Qt.lenS (by kernel_rfl) rfl) ?_
  refine LW.q rfl (Qt.neq rfl rfl) ?_
  refine LW.done ?_
  first | refine T.condF rfl ?_ | refine T.condPF rfl (by omega) ?_ | refine T.condBF rfl (by omega) ?_
  refine T.skip ?_
  refine T.seq ?_
  refine T.region ?_
  first | refine LW.q rfl (Qt.loadAgg [_, _] (by kernel_rfl) rfl ⟨rfl, rfl, trivial⟩) ?_ | refine LW.q rfl (Qt.loadAgg [_, _] (by kernel_rfl) rfl (by exact rdl_flat _ _ _ (by intros; rfl) _ (by omega))) ?_
  refine LW.e rfl (Ef.call (Rf.copy B p q a b n m secs pend hs (by omega)) Tryd.func71 rfl rfl rfl ?_)
  rintro _ _ ⟨p1, a1, q1, b1, rfl, rfl⟩
  try simp only [List.cons_append, List.nil_append]
  refine LW.e rfl (Ef.alloc [.slice none 0 0, .slice none 0 0] (by unfold zeroB; kernel_rfl) ?_)
  intro g8
  refine LW.e0 rfl (Ef.store [_, _] (by kernel_rfl) rfl rfl rfl rfl (by simp) ?_)
  try simp only [splice, List.length_cons, List.length_nil, List.drop_succ_cons, List.cons_append, List.take_succ_cons, List.take_zero, List.drop_zero, List.nil_append, List.append_nil]
  refine LW.done ?_
  refine T.seq ?_
  refine T.region ?_
  refine LW.q rfl (Qt.fieldAddr (off := 1) (by kernel_rfl) rfl) ?_
  first | refine LW.q rfl (Qt.load (by kernel_rfl) rfl rfl) ?_ | refine LW.q rfl (Qt.load (by kernel_rfl) rfl (map_at _ _ _ (by omega))) ?_ | refine LW.q rfl (Qt.load (by kernel_rfl) rfl (flat_cell0 _ _ _ (by intros; rfl) _ (by omega) (by rfl))) ?_ | refine LW.q rfl (Qt.load (by kernel_rfl) rfl (flat_cell _ _ _ (by intros; rfl) _ _ (by omega) (by rfl))) ?_ | refine LW.q rfl (Qt.load (by kernel_rfl) rfl (bytes_at _ _ (by omega))) ?_
  refine LW.q rfl (Qt.move rfl) ?_
  refine LW.q rfl (Qt.move rfl) ?_
  refine LW.q rfl (Qt.build [(0, 1), (1, 1)] [.int .i64 0, .string .empty] [_, _] [(0, _), (1, _)] (by kernel_rfl) (by unfold zeroB; kernel_rfl) rfl rfl) ?_
  refine LW.e rfl (Ef.one [_, _] (e := 133) (sz := 2) (by kernel_rfl) ⟨.agg #[.int .i64 0, .string .empty], by kernel_rfl, rfl⟩ rfl rfl rfl (by omega) (by omega) ?_)
  intro g30
  refine LW.e rfl (Ef.append Rf.elemW rfl rfl (SrcOf.blk (by kernel_rfl) rfl (by simp [Value.oneCell'])) (by unfold maxLen; omega) (by omega) ?_)
  rintro p2 c2 hp2
  try simp only [List.cons_append, List.nil_append]
  rw [show [Value.int .i64 (j : Int), .string (strOf dat)] = rpV (j, dat) from rfl, flat_snoc]
  refine LW.q rfl (Qt.fieldAddr (off := 1) (by kernel_rfl) rfl) ?_
  refine LW.e0 rfl (Ef.store1 (by kernel_rfl) rfl rfl rfl (by first | (simp; done) | (simp; omega)) ?_)
  try simp only [List.set_cons_zero, List.set_cons_succ]
  refine LW.done ?_
  refine T.seq ?_
  refine T.region ?_
  first | refine LW.q rfl (Qt.loadAgg [_, _] (by kernel_rfl) rfl ⟨rfl, rfl, trivial⟩) ?_ | refine LW.q rfl (Qt.loadAgg [_, _] (by kernel_rfl) rfl (by exact rdl_flat _ _ _ (by intros; rfl) _ (by omega))) ?_
  refine LW.e0 rfl (Ef.store [_, _] (by kernel_rfl) rfl rfl rfl rfl (by simp) ?_)
  try simp only [splice, List.length_cons, List.length_nil, List.drop_succ_cons, List.cons_append, List.take_succ_cons, List.take_zero, List.drop_zero, List.nil_append, List.append_nil]
  refine LW.q rfl (Qt.assign rfl) ?_
  refine LW.done ?_
  refine T.ret ?_
  exact ⟨.inl rfl, _, _, res [_, _] rfl ⟨rvA [_, _] (by kernel_rfl) rfl ⟨rfl, rfl, trivial⟩, rvT rfl, trivial⟩, ⟨_, _, _, _, rfl, rfl⟩, Sub.any⟩

set_option maxRecDepth 100000 in
theorem Rf.read_range (B : Base) (p q : Option Addr) (a b n m : Nat) (i : Int) (hn : i < 0 ∨ (n : Int) ≤ i) :
    Fn Tryd.prog B 65 #[.agg #[.slice p n a, .slice q m b], .int .i64 i] [] (fun v l => v = .tuple #[strW [], .int .i64 1] ∧ l = []) := by
  refine Fn.enter2 44 Tryd.func65 rfl rfl (Nat.le_of_ble_eq_true rfl) (fun F => ?_)
  try simp only [List.cons_append, List.nil_append]
  refine T.seq ?_
  refine T.region ?_
  refine LW.e rfl (Ef.box [_, _] rfl rfl ?_)
  intro g2
  refine LW.q rfl (Qt.assign rfl) ?_
  refine LW.q rfl (Qt.assign rfl) ?_
  refine LW.done ?_
  refine T.seq ?_
  refine T.seq ?_
  refine T.region ?_
  refine LW.q rfl (Qt.move rfl) ?_
  refine LW.q rfl (Qt.lss rfl rfl) ?_
  refine LW.q rfl (Qt.move rfl) ?_
  refine LW.split (t := 10) rfl (fun h1 => ?_) (fun h1 => ?_)
  · skip
    try replace h1 := of_decide_eq_true h1
    refine LW.s rfl ?_
    refine LW.s rfl ?_
    refine LW.s rfl ?_
    refine LW.s rfl ?_
    refine LW.s rfl ?_
    refine LW.q rfl (Qt.pick rfl rfl) ?_
    refine LW.done ?_
    first | refine T.condT rfl ?_ | refine T.condPT rfl (by omega) ?_ | refine T.condBT rfl (by omega) ?_
    refine T.seq ?_
    refine T.region ?_
    refine LW.q rfl (Qt.assign rfl) ?_
    refine LW.q rfl (Qt.assign rfl) ?_
    refine LW.done ?_
    refine T.ret ?_
    exact ⟨.inl rfl, _, _, res [_, _] rfl ⟨rvT rfl, rvT rfl, trivial⟩, ⟨rfl, rfl⟩, Sub.any⟩
  · skip
    try replace h1 := of_decide_eq_false h1
    refine LW.q rfl (Qt.move rfl) ?_
    refine LW.q rfl (Qt.fieldAddr0 (by kernel_rfl) rfl) ?_
    first | refine LW.q rfl (Qt.load (by kernel_rfl) rfl rfl) ?_ | refine LW.q rfl (Qt.load (by kernel_rfl) rfl (map_at _ _ _ (by omega))) ?_ | refine LW.q rfl (Qt.load (by kernel_rfl) rfl (flat_cell0 _ _ _ (by intros; rfl) _ (by omega) (by rfl))) ?_ | refine LW.q rfl (Qt.load (by kernel_rfl) rfl (flat_cell _ _ _ (by intros; rfl) _ _ (by omega) (by rfl))) ?_ | refine LW.q rfl (Qt.load (by kernel_rfl) rfl (bytes_at _ _ (by omega))) ?_
    refine LW.q rfl (Qt.len (e := 9) (sz := 1) (by kernel_rfl) rfl) ?_
    refine LW.q rfl (Qt.geq rfl rfl) ?_
    refine LW.q rfl (Qt.pick rfl rfl) ?_
    refine LW.done ?_
    first | refine T.condT rfl ?_ | refine T.condPT rfl (by omega) ?_ | refine T.condBT rfl (by omega) ?_
    refine T.seq ?_
    refine T.region ?_
    refine LW.q rfl (Qt.assign rfl) ?_
    refine LW.q rfl (Qt.assign rfl) ?_
    refine LW.done ?_
    refine T.ret ?_
    exact ⟨.inl rfl, _, _, res [_, _] rfl ⟨rvT rfl, rvT rfl, trivial⟩, ⟨rfl, rfl⟩, Sub.any⟩
set_option maxRecDepth 100000 in
theorem Rf.read (B : Base) (p q : Option Addr) (a b n m : Nat) (i : Int) (j : Nat) (hi : i = j) (secs : List (List UInt8)) (pend : List (Nat × List UInt8)) (hn : j < n) (hs : n ≤ 4096) (hp : m < 2 ^ 32) :
    Fn Tryd.prog B 65 #[.agg #[.slice p n a, .slice q m b], .int .i64 i] [rS (.slice p n a) n secs, rW (.slice q m b) m pend]
      (fun v l => v = .tuple #[strW (DD.read ⟨secs, pend⟩ j), .int .i64 0] ∧ l = [rS (.slice p n a) n secs, rW (.slice q m b) m pend]) := by
  subst hi
  refine Fn.enter2 44 Tryd.func65 rfl rfl (Nat.le_of_ble_eq_true rfl) (fun F => ?_)
  try simp only [List.cons_append, List.nil_append]
  refine T.own (fun w ho => ?_)
  obtain ⟨-, hg, hsl⟩ := ho.slice_at (p := p) (m := n) (c := a)
  obtain ⟨-, hq, hpl⟩ := ho.slice_at (p := q) (m := m) (c := b)
  obtain ⟨g, rfl⟩ := hg (by omega)
  replace hsl : secs.length = n := by simpa using hsl
  replace hpl : pend.length = m := by rw [flat_length rpV 2 _ (fun _ _ => rfl)] at hpl; omega
  clear ho
  refine T.seq ?_
  refine T.region ?_
  refine LW.e rfl (Ef.box [_, _] rfl rfl ?_)
  intro g2
  refine LW.q rfl (Qt.assign rfl) ?_
  refine LW.q rfl (Qt.assign rfl) ?_
  refine LW.done ?_
  refine T.seq ?_
  refine T.seq ?_
  refine T.region ?_
  refine LW.q rfl (Qt.move rfl) ?_
  refine LW.q rfl (Qt.lss rfl rfl) ?_
  refine LW.q rfl (Qt.move rfl) ?_
  first | refine LW.gF (t := 10) rfl rfl ?_ | refine LW.gF (t := 10) rfl (decide_eq_false (by omega)) ?_ | refine LW.gF (t := 10) rfl (by omega) ?_
  refine LW.q rfl (Qt.move rfl) ?_
  refine LW.q rfl (Qt.fieldAddr0 (by kernel_rfl) rfl) ?_
  first | refine LW.q rfl (Qt.load (by kernel_rfl) rfl rfl) ?_ | refine LW.q rfl (Qt.load (by kernel_rfl) rfl (map_at _ _ _ (by omega))) ?_ | refine LW.q rfl (Qt.load (by kernel_rfl) rfl (flat_cell0 _ _ _ (by intros; rfl) _ (by omega) (by rfl))) ?_ | refine LW.q rfl (Qt.load (by kernel_rfl) rfl (flat_cell _ _ _ (by intros; rfl) _ _ (by omega) (by rfl))) ?_ | refine LW.q rfl (Qt.load (by kernel_rfl) rfl (bytes_at _ _ (by omega))) ?_
  refine LW.q rfl (Qt.len (e := 9) (sz := 1) (by kernel_rfl) rfl) ?_
  refine LW.q rfl (Qt.geq rfl rfl) ?_
  refine LW.q rfl (Qt.pick rfl rfl) ?_
  refine LW.done ?_
  first | refine T.condF rfl ?_ | refine T.condPF rfl (by omega) ?_ | refine T.condBF rfl (by omega) ?_
  refine T.skip ?_
  refine T.seq ?_
  refine T.region ?_
  refine LW.q rfl (Qt.fieldAddr0 (by kernel_rfl) rfl) ?_
  first | refine LW.q rfl (Qt.load (by kernel_rfl) rfl rfl) ?_ | refine LW.q rfl (Qt.load (by kernel_rfl) rfl (map_at _ _ _ (by omega))) ?_ | refine LW.q rfl (Qt.load (by kernel_rfl) rfl (flat_cell0 _ _ _ (by intros; rfl) _ (by omega) (by rfl))) ?_ | refine LW.q rfl (Qt.load (by kernel_rfl) rfl (flat_cell _ _ _ (by intros; rfl) _ _ (by omega) (by rfl))) ?_ | refine LW.q rfl (Qt.load (by kernel_rfl) rfl (bytes_at _ _ (by omega))) ?_
  refine LW.q rfl (Qt.move rfl) ?_
  refine LW.q rfl (Qt.index _ (e := 9) (sz := 1) (by kernel_rfl) rfl rfl rfl (by omega)) ?_
  first | refine LW.q rfl (Qt.load (by kernel_rfl) rfl rfl) ?_ | refine LW.q rfl (Qt.load (by kernel_rfl) rfl (map_at _ _ _ (by omega))) ?_ | refine LW.q rfl (Qt.load (by kernel_rfl) rfl (flat_cell0 _ _ _ (by intros; rfl) _ (by omega) (by rfl))) ?_ | refine LW.q rfl (Qt.load (by kernel_rfl) rfl (flat_cell _ _ _ (by intros; rfl) _ _ (by omega) (by rfl))) ?_ | refine LW.q rfl (Qt.load (by kernel_rfl) rfl (bytes_at _ _ (by omega))) ?_
  refine LW.q rfl (Qt.assign rfl) ?_
  refine LW.done ?_
  refine T.seq ?_
  refine T.seq ?_
  refine T.region ?_
  refine LW.q rfl (Qt.assign rfl) ?_
  refine LW.done ?_
  refine T.block ?_
  refine T.loop (fun mz fz lz => ∃ (f0 : Fr) (k : Nat) (x : List UInt8), (k ≤ m ∧ x = DD.readK ⟨secs, pend⟩ j k) ∧ mz = m - k ∧ fz = (upd (upd (upd (upd f0 1 (.int .i64 j)) 2 (.pointer (some ⟨g2, 0, none⟩))) 6 (strW x)) 7 (.int .i64 k)) ∧ lz = [blk g2 [.slice (some ⟨g, 0, none⟩) n a, .slice q m b] 63, rS (.slice (some ⟨g, 0, none⟩) n a) n secs, rW (.slice q m b) m pend] ++ F) ?_ ?_
  · refine ⟨_, _, ⟨_, 0, _, ⟨Nat.zero_le _, by rw [DD.readK_zero]; simp [hsl, hn]⟩, rfl, (updS rfl (updS rfl (updS rfl (updS rfl rfl)))), rfl⟩, Sub.any⟩
  · skip
    rintro mz fz lz ⟨f0, k, x, ⟨hk, hx⟩, hmz, rfl, rfl⟩
    subst mz
    try simp only [List.cons_append, List.nil_append]
    refine T.seq ?_
    refine T.seq ?_
    refine T.region ?_
    refine LW.q rfl (Qt.move rfl) ?_
    refine LW.q rfl (Qt.fieldAddr (off := 1) (by kernel_rfl) rfl) ?_
    first | refine LW.q rfl (Qt.load (by kernel_rfl) rfl rfl) ?_ | refine LW.q rfl (Qt.load (by kernel_rfl) rfl (map_at _ _ _ (by omega))) ?_ | refine LW.q rfl (Qt.load (by kernel_rfl) rfl (flat_cell0 _ _ _ (by intros; rfl) _ (by omega) (by rfl))) ?_ | refine LW.q rfl (Qt.load (by kernel_rfl) rfl (flat_cell _ _ _ (by intros; rfl) _ _ (by omega) (by rfl))) ?_ | refine LW.q rfl (Qt.load (by kernel_rfl) rfl (bytes_at _ _ (by omega))) ?_
    refine LW.q rfl (Qt.len (e := 133) (sz := 2) (by kernel_rfl) rfl) ?_
    refine LW.q rfl (Qt.lss rfl rfl) ?_
    refine LW.done ?_
    refine T.condP rfl (fun hlt => ?_) (fun hlt => ?_)
    · skip
      obtain ⟨gq, rfl⟩ := hq (by omega)
      refine T.skip ?_
      refine T.seq ?_
      refine T.block ?_
      refine T.seq ?_
      refine T.region ?_
      refine LW.q rfl (Qt.fieldAddr (off := 1) (by kernel_rfl) rfl) ?_
      first | refine LW.q rfl (Qt.load (by kernel_rfl) rfl rfl) ?_ | refine LW.q rfl (Qt.load (by kernel_rfl) rfl (map_at _ _ _ (by omega))) ?_ | refine LW.q rfl (Qt.load (by kernel_rfl) rfl (flat_cell0 _ _ _ (by intros; rfl) _ (by omega) (by rfl))) ?_ | refine LW.q rfl (Qt.load (by kernel_rfl) rfl (flat_cell _ _ _ (by intros; rfl) _ _ (by omega) (by rfl))) ?_ | refine LW.q rfl (Qt.load (by kernel_rfl) rfl (bytes_at _ _ (by omega))) ?_
      refine LW.q rfl (Qt.move rfl) ?_
      refine LW.q rfl (Qt.index _ (e := 133) (sz := 2) (by kernel_rfl) rfl rfl rfl (by omega)) ?_
      refine LW.q rfl (Qt.fieldAddr0 (by kernel_rfl) rfl) ?_
      first | refine LW.q rfl (Qt.load (by kernel_rfl) rfl rfl) ?_ | refine LW.q rfl (Qt.load (by kernel_rfl) rfl (map_at _ _ _ (by omega))) ?_ | refine LW.q rfl (Qt.load (by kernel_rfl) rfl (flat_cell0 _ _ _ (by intros; rfl) _ (by omega) (by rfl))) ?_ | refine LW.q rfl (Qt.load (by kernel_rfl) rfl (flat_cell _ _ _ (by intros; rfl) _ _ (by omega) (by rfl))) ?_ | refine LW.q rfl (Qt.load (by kernel_rfl) rfl (bytes_at _ _ (by omega))) ?_
      refine LW.q rfl (Qt.move rfl) ?_
      refine LW.q rfl (Qt.eql rfl rfl) ?_
      refine LW.done ?_
      refine T.condP rfl (fun he => ?_) (fun he => ?_)
      · skip
        refine T.region ?_
        refine LW.q rfl (Qt.fieldAddr (off := 1) (by kernel_rfl) rfl) ?_
        first | refine LW.q rfl (Qt.load (by kernel_rfl) rfl rfl) ?_ | refine LW.q rfl (Qt.load (by kernel_rfl) rfl (map_at _ _ _ (by omega))) ?_ | refine LW.q rfl (Qt.load (by kernel_rfl) rfl (flat_cell0 _ _ _ (by intros; rfl) _ (by omega) (by rfl))) ?_ | refine LW.q rfl (Qt.load (by kernel_rfl) rfl (flat_cell _ _ _ (by intros; rfl) _ _ (by omega) (by rfl))) ?_ | refine LW.q rfl (Qt.load (by kernel_rfl) rfl (bytes_at _ _ (by omega))) ?_
        refine LW.q rfl (Qt.move rfl) ?_
        refine LW.q rfl (Qt.index _ (e := 133) (sz := 2) (by kernel_rfl) rfl rfl rfl (by omega)) ?_
        refine LW.q rfl (Qt.fieldAddr (off := 1) (by kernel_rfl) rfl) ?_
        first | refine LW.q rfl (Qt.load (by kernel_rfl) rfl rfl) ?_ | refine LW.q rfl (Qt.load (by kernel_rfl) rfl (map_at _ _ _ (by omega))) ?_ | refine LW.q rfl (Qt.load (by kernel_rfl) rfl (flat_cell0 _ _ _ (by intros; rfl) _ (by omega) (by rfl))) ?_ | refine LW.q rfl (Qt.load (by kernel_rfl) rfl (flat_cell _ _ _ (by intros; rfl) _ _ (by omega) (by rfl))) ?_ | refine LW.q rfl (Qt.load (by kernel_rfl) rfl (bytes_at _ _ (by omega))) ?_
        refine LW.q rfl (Qt.assign rfl) ?_
        refine LW.done ?_
        refine T.region ?_
        refine LW.q rfl (Qt.move rfl) ?_
        refine LW.q rfl (Qt.add rfl rfl (wr64 (by omega) (by omega))) ?_
        refine LW.q rfl (Qt.assign rfl) ?_
        refine LW.done ?_
        refine ⟨_, ?_, _, ⟨_, k + 1, _, ⟨by omega, by rw [DD.readK_succ _ _ _ (by simp only; omega), if_pos (by simp only; omega)]⟩, rfl, (updS rfl (updS rfl (updS rfl (updS rfl rfl)))), rfl⟩, Sub.any⟩
        first | omega | (simp; omega)
      · skip
        refine T.skip ?_
        refine T.region ?_
        refine LW.q rfl (Qt.move rfl) ?_
        refine LW.q rfl (Qt.add rfl rfl (wr64 (by omega) (by omega))) ?_
        refine LW.q rfl (Qt.assign rfl) ?_
        refine LW.done ?_
        refine ⟨_, ?_, _, ⟨_, k + 1, _, ⟨by omega, by rw [DD.readK_succ _ _ _ (by simp only; omega), if_neg (by simp only; omega), hx]⟩, rfl, (updS rfl (updS rfl (updS rfl (updS rfl rfl)))), rfl⟩, Sub.any⟩
        first | omega | (simp; omega)
    · skip
      have e : k = m := by omega
      subst e
      subst hx
      refine T.exit ?_
      refine T.seq ?_
      refine T.region ?_
      refine LW.q rfl (Qt.move rfl) ?_
      refine LW.q rfl (Qt.assign rfl) ?_
      refine LW.q rfl (Qt.assign rfl) ?_
      refine LW.done ?_
      refine T.ret ?_
      exact ⟨.inl rfl, _, _, res [_, _] rfl ⟨rvT rfl, rvT rfl, trivial⟩, ⟨by rw [DD.read, hpl]; rfl, rfl⟩, Sub.any⟩
end Go.Proofs.YtjjhbpjbngdlnaaDoor

/- The document's disk (annalsref01): the walk of Crash. Conditions: sizes. -/
namespace Go.Proofs.YtjjhbpjbngdlnaaDoor
open Go.RowKit

/-- How many bytes of write number i the document keeps. -/
def rAmt (al : Bool) (keep : List Bool) (tear at_ : Int) (i : Nat) : Nat := if al = true then 256 else if (i : Int) = tear then clampN at_ else if keep.getD i false = true then 256 else 0
theorem rAmt_le (al : Bool) (keep : List Bool) (tear at_ : Int) (i : Nat) : rAmt al keep tear at_ i ≤ 256 := by
  unfold rAmt
  have := clampN_le at_
  split
  · omega
  · split
    · exact this
    · split <;> omega

set_option maxHeartbeats 1000000 in
set_option maxRecDepth 100000 in
theorem Rf.crash (B : Base) (p q : Option Addr) (a b n m : Nat) (al : Bool) (vk : Value) (keep : List Bool) (tear at_ : Int) (secs : List (List UInt8)) (pend : List (Nat × List UInt8)) (hD : DD.Ok ⟨secs, pend⟩) (hp : m < 2 ^ 32) (hk : RoS B vk (boolsV keep)) :
    Fn Tryd.prog B 38 #[.agg #[.slice p n a, .slice q m b], .bool al, vk, .int .i64 tear, .int .i64 at_] [rS (.slice p n a) n secs, rW (.slice q m b) m pend]
      (fun v l => ∃ p' a', v = .agg #[.slice p' n a', .slice none 0 0] ∧ l = [rS (.slice p' n a') n (DD.lays ⟨secs, pend⟩ (fun i => some (rAmt al keep tear at_ i)) m), rW (.slice none 0 0) 0 []]) := by
  obtain ⟨ka, kc, rfl, hkc⟩ := hk
  rw [show (boolsV keep).length = keep.length by simp [boolsV]]
  refine Fn.enter5 74 Tryd.func38 rfl rfl (Nat.le_of_ble_eq_true rfl) (fun F => ?_)
  try simp only [List.cons_append, List.nil_append]
  refine T.own (fun w ho => ?_)
  obtain ⟨-, hg, hsl⟩ := ho.slice_at (p := p) (m := n) (c := a)
  obtain ⟨-, hq, hpl⟩ := ho.slice_at (p := q) (m := m) (c := b)
  replace hsl : secs.length = n := by simpa using hsl
  replace hpl : pend.length = m := by rw [flat_length rpV 2 _ (fun _ _ => rfl)] at hpl; omega
  clear ho hg
  have hn1 : n ≤ 4096 := by rw [← hsl]; exact hD.max
  have hn0 : 0 < n := by rw [← hsl]; exact hD.pos
  refine T.seq ?_
  refine T.region ?_
  refine LW.e rfl (Ef.box [_, _] rfl rfl ?_)
  intro g5
  refine LW.e rfl (Ef.alloc [.slice none 0 0, .slice none 0 0] (by unfold zeroB; kernel_rfl) ?_)
  intro g10
  refine LW.done ?_
  refine T.seq ?_
  refine T.region ?_
  first | refine LW.q rfl (Qt.loadAgg [_, _] (by kernel_rfl) rfl ⟨rfl, rfl, trivial⟩) ?_ | refine LW.q rfl (Qt.loadAgg [_, _] (by kernel_rfl) rfl (by exact rdl_flat _ _ _ (by intros; rfl) _ (by omega))) ?_
  refine LW.e rfl (Ef.call (Rf.copy B p q a b n m secs pend hn1 hp) Tryd.func71 rfl rfl rfl ?_)
  rintro _ _ ⟨p1, a1, q1, b1, rfl, rfl⟩
  try simp only [List.cons_append, List.nil_append]
  refine LW.e rfl (Ef.alloc [.slice none 0 0, .slice none 0 0] (by unfold zeroB; kernel_rfl) ?_)
  intro g11
  refine LW.e0 rfl (Ef.store [_, _] (by kernel_rfl) rfl rfl rfl rfl (by simp) ?_)
  try simp only [splice, List.length_cons, List.length_nil, List.drop_succ_cons, List.cons_append, List.take_succ_cons, List.take_zero, List.drop_zero, List.nil_append, List.append_nil]
  refine LW.done ?_
  refine T.seq ?_
  refine T.region ?_
  refine LW.q rfl (Qt.fieldAddr (off := 1) (by kernel_rfl) rfl) ?_
  refine LW.e0 rfl (Ef.store1 (by kernel_rfl) rfl rfl rfl (by first | (simp; done) | (simp; omega)) ?_)
  try simp only [List.set_cons_zero, List.set_cons_succ]
  refine LW.done ?_
  refine T.seq ?_
  refine T.seq ?_
  refine T.region ?_
  refine LW.q rfl (Qt.assign rfl) ?_
  refine LW.done ?_
  refine T.block ?_
  refine T.own (fun w ho => ?_)
  obtain ⟨-, hg1, -⟩ := ho.slice_at (p := p1) (m := n) (c := a1)
  obtain ⟨gs, rfl⟩ := hg1 hn0
  clear ho hg1
  refine T.loop (fun mz fz lz => ∃ (f0 : Fr) (k : Nat) (S : List (List UInt8)), (k ≤ m ∧ S = DD.lays ⟨secs, pend⟩ (fun i => some (rAmt al keep tear at_ i)) k) ∧ mz = m - k ∧ fz = (upd (upd (upd (upd (upd (upd (upd (upd f0 1 (.bool al)) 2 (.slice ka keep.length kc)) 3 (.int .i64 tear)) 4 (.int .i64 at_)) 5 (.pointer (some ⟨g5, 0, none⟩))) 10 (.pointer (some ⟨g10, 0, none⟩))) 11 (.pointer (some ⟨g11, 0, none⟩))) 12 (.int .i64 k)) ∧ lz = [blk g11 [.slice (some ⟨gs, 0, none⟩) n a1, .slice none 0 0] 63, rS (.slice (some ⟨gs, 0, none⟩) n a1) n S, blk g5 [.slice p n a, .slice q m b] 63, rW (.slice q m b) m pend, blk g10 [.slice none 0 0, .slice none 0 0] 63] ++ F) ?_ ?_
  · refine ⟨_, _, ⟨_, 0, secs, ⟨Nat.zero_le _, rfl⟩, rfl, (updS rfl (updS rfl (updS rfl (updS rfl (updS rfl (updS rfl (updS rfl (updS rfl rfl)))))))), rfl⟩, Sub.any⟩
  · skip
    rintro mz fz lz ⟨f0, k, S, ⟨hkm, hS⟩, hmz, rfl, rfl⟩
    subst mz
    try simp only [List.cons_append, List.nil_append]
    refine T.seq ?_
    refine T.seq ?_
    refine T.region ?_
    refine LW.q rfl (Qt.move rfl) ?_
    refine LW.q rfl (Qt.fieldAddr (off := 1) (by kernel_rfl) rfl) ?_
    first | refine LW.q rfl (Qt.load (by kernel_rfl) rfl rfl) ?_ | refine LW.q rfl (Qt.load (by kernel_rfl) rfl (map_at _ _ _ (by omega))) ?_ | refine LW.q rfl (Qt.load (by kernel_rfl) rfl (flat_cell0 _ _ _ (by intros; rfl) _ (by omega) (by rfl))) ?_ | refine LW.q rfl (Qt.load (by kernel_rfl) rfl (flat_cell _ _ _ (by intros; rfl) _ _ (by omega) (by rfl))) ?_ | refine LW.q rfl (Qt.load (by kernel_rfl) rfl (bytes_at _ _ (by omega))) ?_
    refine LW.q rfl (Qt.len (e := 133) (sz := 2) (by kernel_rfl) rfl) ?_
    refine LW.q rfl (Qt.lss rfl rfl) ?_
    refine LW.done ?_
    refine T.condP rfl (fun hlt => ?_) (fun hlt => ?_)
    · skip
      obtain ⟨gq, rfl⟩ := hq (by omega)
      obtain ⟨hSl, hSn⟩ := DD.lays_ok hD (fun i => some (rAmt al keep tear at_ i)) (fun i k e => by cases e; exact rAmt_le ..) k
      rw [← hS] at hSl hSn
      simp only [hsl] at hSn
      refine T.skip ?_
      refine T.seq ?_
      refine T.block ?_
      refine T.seq ?_
      refine T.region ?_
      refine LW.q rfl (Qt.fieldAddr (off := 1) (by kernel_rfl) rfl) ?_
      first | refine LW.q rfl (Qt.load (by kernel_rfl) rfl rfl) ?_ | refine LW.q rfl (Qt.load (by kernel_rfl) rfl (map_at _ _ _ (by omega))) ?_ | refine LW.q rfl (Qt.load (by kernel_rfl) rfl (flat_cell0 _ _ _ (by intros; rfl) _ (by omega) (by rfl))) ?_ | refine LW.q rfl (Qt.load (by kernel_rfl) rfl (flat_cell _ _ _ (by intros; rfl) _ _ (by omega) (by rfl))) ?_ | refine LW.q rfl (Qt.load (by kernel_rfl) rfl (bytes_at _ _ (by omega))) ?_
      refine LW.q rfl (Qt.move rfl) ?_
      refine LW.q rfl (Qt.index _ (e := 133) (sz := 2) (by kernel_rfl) rfl rfl rfl (by omega)) ?_
      first | refine LW.q rfl (Qt.loadAgg [_, _] (by kernel_rfl) rfl ⟨rfl, rfl, trivial⟩) ?_ | refine LW.q rfl (Qt.loadAgg [_, _] (by kernel_rfl) rfl (by exact rdl_flat _ _ _ (by intros; rfl) _ (by omega))) ?_
      refine LW.e rfl (Ef.alloc [.int .i64 0, .string .empty] (by unfold zeroB; kernel_rfl) ?_)
      intro g13
      refine LW.e0 rfl (Ef.store [_, _] (by kernel_rfl) rfl rfl rfl rfl (by simp) ?_)
      try simp only [splice, List.length_cons, List.length_nil, List.drop_succ_cons, List.cons_append, List.take_succ_cons, List.take_zero, List.drop_zero, List.nil_append, List.append_nil]
      refine LW.done ?_
      refine T.seq ?_
      refine T.region ?_
      refine LW.q rfl (Qt.assign rfl) ?_
      refine LW.done ?_
      refine T.cut (fun fz lz => ∃ (f0 : Fr) (n1 : Nat), (n1 = if al = true ∨ keep.getD k false = true then 256 else 0) ∧ fz = (upd (upd (upd (upd (upd (upd (upd (upd (upd (upd f0 1 (.bool al)) 2 (.slice ka keep.length kc)) 3 (.int .i64 tear)) 4 (.int .i64 at_)) 5 (.pointer (some ⟨g5, 0, none⟩))) 10 (.pointer (some ⟨g10, 0, none⟩))) 11 (.pointer (some ⟨g11, 0, none⟩))) 12 (.int .i64 k)) 13 (.pointer (some ⟨g13, 0, none⟩))) 14 (.int .i64 n1)) ∧ lz = [blk g13 [.int .i64 pend[k].1, strW pend[k].2] 133, blk g11 [.slice (some ⟨gs, 0, none⟩) n a1, .slice none 0 0] 63, rS (.slice (some ⟨gs, 0, none⟩) n a1) n S, blk g5 [.slice p n a, .slice (some ⟨gq, 0, none⟩) m b] 63, rW (.slice (some ⟨gq, 0, none⟩) m b) m pend, blk g10 [.slice none 0 0, .slice none 0 0] 63] ++ F) ?_ ?_
      · skip
        refine T.seq ?_
        refine T.region ?_
        refine LW.q rfl (Qt.move rfl) ?_
        refine LW.q rfl (Qt.move rfl) ?_
        refine LW.split (t := 31) rfl (fun hal => ?_) (fun hal => ?_)
        · skip
          try replace hal := of_decide_eq_true hal
          refine LW.s rfl ?_
          refine LW.s rfl ?_
          refine LW.s rfl ?_
          refine LW.s rfl ?_
          refine LW.s rfl ?_
          refine LW.s rfl ?_
          refine LW.s rfl ?_
          refine LW.s rfl ?_
          refine LW.s rfl ?_
          refine LW.s rfl ?_
          refine LW.q rfl (Qt.pick rfl rfl) ?_
          refine LW.done ?_
          first | refine T.condT rfl ?_ | refine T.condPT rfl (by omega) ?_ | refine T.condBT rfl (by omega) ?_
          refine T.region ?_
          refine LW.q rfl (Qt.assign rfl) ?_
          refine LW.done ?_
          exact ⟨_, ⟨_, 256, by simp [hal], (updS rfl (updS rfl (updS rfl (updS rfl (updS rfl (updS rfl (updS rfl (updS rfl (updS rfl (updS rfl rfl)))))))))), rfl⟩, Sub.any⟩
        · skip
          try replace hal := of_decide_eq_false hal
          refine LW.q rfl (Qt.move rfl) ?_
          refine LW.q rfl (Qt.move rfl) ?_
          refine LW.q rfl (Qt.len (e := 4) (sz := 1) (by kernel_rfl) rfl) ?_
          refine LW.q rfl (Qt.lss rfl rfl) ?_
          refine LW.q rfl (Qt.move rfl) ?_
          refine LW.split (t := 36) rfl (fun hkl => ?_) (fun hkl => ?_)
          · skip
            try replace hkl := of_decide_eq_true hkl
            obtain ⟨kb, ko, C, rfl, hro, hC⟩ : ∃ kb ko C, ka = some ⟨kb, ko, none⟩ ∧ ROc B kb C ∧ ∀ j u, (boolsV keep)[j]? = some u → C[ko + j * 1]? = some u := by rcases hkc with h | h; (have : keep.length = 0 := by simpa [boolsV] using congrArg List.length h); omega; exact h
            refine LW.q rfl (Qt.move rfl) ?_
            refine LW.q rfl (Qt.move rfl) ?_
            refine LW.q rfl (Qt.index _ (e := 4) (sz := 1) (by kernel_rfl) rfl rfl rfl (by omega)) ?_
            refine LW.q rfl (Qt.load (v := .bool (keep[k]'(by omega))) (by kernel_rfl) rfl (hC k _ (by simp [boolsV]))) ?_
            refine LW.q rfl (Qt.pick rfl rfl) ?_
            refine LW.q rfl (Qt.pick rfl rfl) ?_
            refine LW.done ?_
            refine T.cond rfl (fun hkk => ?_) (fun hkk => ?_)
            · skip
              refine T.region ?_
              refine LW.q rfl (Qt.assign rfl) ?_
              refine LW.done ?_
              exact ⟨_, ⟨_, 256, by simp [hal, List.getD, List.getElem?_eq_getElem (show k < keep.length by omega), hkk], (updS rfl (updS rfl (updS rfl (updS rfl (updS rfl (updS rfl (updS rfl (updS rfl (updS rfl (updS rfl rfl)))))))))), rfl⟩, Sub.any⟩
            · skip
              refine T.skip ?_
              exact ⟨_, ⟨_, 0, by simp [hal, List.getD, List.getElem?_eq_getElem (show k < keep.length by omega), hkk], (updS rfl (updS rfl (updS rfl (updS rfl (updS rfl (updS rfl (updS rfl (updS rfl (updS rfl (updS rfl rfl)))))))))), rfl⟩, Sub.any⟩
          · skip
            try replace hkl := of_decide_eq_false hkl
            refine LW.s rfl ?_
            refine LW.s rfl ?_
            refine LW.s rfl ?_
            refine LW.s rfl ?_
            refine LW.q rfl (Qt.pick rfl rfl) ?_
            refine LW.q rfl (Qt.pick rfl rfl) ?_
            refine LW.done ?_
            first | refine T.condF rfl ?_ | refine T.condPF rfl (by omega) ?_ | refine T.condBF rfl (by omega) ?_
            refine T.skip ?_
            exact ⟨_, ⟨_, 0, by simp [hal, List.getD, List.getElem?_eq_none (show keep.length ≤ k by omega)], (updS rfl (updS rfl (updS rfl (updS rfl (updS rfl (updS rfl (updS rfl (updS rfl (updS rfl (updS rfl rfl)))))))))), rfl⟩, Sub.any⟩
      rintro fz lz ⟨f0, n1, hn1, rfl, rfl⟩
      try simp only [List.cons_append, List.nil_append]
      refine T.cut (fun fz lz => ∃ (f0 : Fr) (n2 : Nat), (n2 = rAmt al keep tear at_ k) ∧ fz = (upd (upd (upd (upd (upd (upd (upd (upd (upd (upd f0 1 (.bool al)) 2 (.slice ka keep.length kc)) 3 (.int .i64 tear)) 4 (.int .i64 at_)) 5 (.pointer (some ⟨g5, 0, none⟩))) 10 (.pointer (some ⟨g10, 0, none⟩))) 11 (.pointer (some ⟨g11, 0, none⟩))) 12 (.int .i64 k)) 13 (.pointer (some ⟨g13, 0, none⟩))) 14 (.int .i64 n2)) ∧ lz = [blk g13 [.int .i64 pend[k].1, strW pend[k].2] 133, blk g11 [.slice (some ⟨gs, 0, none⟩) n a1, .slice none 0 0] 63, rS (.slice (some ⟨gs, 0, none⟩) n a1) n S, blk g5 [.slice p n a, .slice (some ⟨gq, 0, none⟩) m b] 63, rW (.slice (some ⟨gq, 0, none⟩) m b) m pend, blk g10 [.slice none 0 0, .slice none 0 0] 63] ++ F) ?_ ?_
      · skip
        refine T.seq ?_
        refine T.region ?_
        refine LW.q rfl (Qt.move rfl) ?_
        first | refine LW.q rfl (Qt.notP rfl) ?_ | refine LW.q rfl (Qt.notB rfl) ?_
        refine LW.q rfl (Qt.move rfl) ?_
        refine LW.split (t := 45) rfl (fun hal => ?_) (fun hal => ?_)
        · skip
          try replace hal := of_decide_eq_true hal
          refine LW.q rfl (Qt.move rfl) ?_
          refine LW.q rfl (Qt.move rfl) ?_
          refine LW.q rfl (Qt.eql rfl rfl) ?_
          refine LW.q rfl (Qt.pick rfl rfl) ?_
          refine LW.done ?_
          refine T.condP rfl (fun hkt => ?_) (fun hkt => ?_)
          · skip
            refine T.seq ?_
            refine T.region ?_
            refine LW.q rfl (Qt.move rfl) ?_
            refine LW.q rfl (Qt.assign rfl) ?_
            refine LW.done ?_
            refine T.seq ?_
            refine T.seq ?_
            refine T.region ?_
            refine LW.q rfl (Qt.move rfl) ?_
            refine LW.q rfl (Qt.lss rfl rfl) ?_
            refine LW.done ?_
            refine T.condP rfl (fun h0 => ?_) (fun h0 => ?_)
            · skip
              refine T.region ?_
              refine LW.q rfl (Qt.assign rfl) ?_
              refine LW.done ?_
              refine T.seq ?_
              refine T.region ?_
              refine LW.q rfl (Qt.move rfl) ?_
              refine LW.q rfl (Qt.gtr rfl rfl) ?_
              refine LW.done ?_
              first | refine T.condF rfl ?_ | refine T.condPF rfl (by omega) ?_ | refine T.condBF rfl (by omega) ?_
              refine T.skip ?_
              exact ⟨_, ⟨_, 0, by simp at hal; simp [rAmt, hal, hkt, clampN] <;> omega, (updS rfl (updS rfl (updS rfl (updS rfl (updS rfl (updS rfl (updS rfl (updS rfl (updS rfl (updS rfl rfl)))))))))), rfl⟩, Sub.any⟩
            · skip
              refine T.skip ?_
              refine T.seq ?_
              refine T.region ?_
              refine LW.q rfl (Qt.move rfl) ?_
              refine LW.q rfl (Qt.gtr rfl rfl) ?_
              refine LW.done ?_
              refine T.condP rfl (fun h1 => ?_) (fun h1 => ?_)
              · skip
                refine T.region ?_
                refine LW.q rfl (Qt.assign rfl) ?_
                refine LW.done ?_
                exact ⟨_, ⟨_, 256, by simp at hal; simp [rAmt, hal, hkt, clampN] <;> omega, (updS rfl (updS rfl (updS rfl (updS rfl (updS rfl (updS rfl (updS rfl (updS rfl (updS rfl (updS rfl rfl)))))))))), rfl⟩, Sub.any⟩
              · skip
                obtain ⟨an, rfl⟩ : ∃ an : Nat, at_ = an := ⟨at_.toNat, by omega⟩
                refine T.skip ?_
                exact ⟨_, ⟨_, an, by simp at hal; simp [rAmt, hal, hkt, clampN] <;> omega, (updS rfl (updS rfl (updS rfl (updS rfl (updS rfl (updS rfl (updS rfl (updS rfl (updS rfl (updS rfl rfl)))))))))), rfl⟩, Sub.any⟩
          · skip
            refine T.skip ?_
            exact ⟨_, ⟨_, n1, by simp at hal; rw [hn1]; simp [rAmt, hal, hkt], (updS rfl (updS rfl (updS rfl (updS rfl (updS rfl (updS rfl (updS rfl (updS rfl (updS rfl (updS rfl rfl)))))))))), rfl⟩, Sub.any⟩
        · skip
          try replace hal := of_decide_eq_false hal
          refine LW.s rfl ?_
          refine LW.s rfl ?_
          refine LW.s rfl ?_
          refine LW.q rfl (Qt.pick rfl rfl) ?_
          refine LW.done ?_
          first | refine T.condF rfl ?_ | refine T.condPF rfl (by omega) ?_ | refine T.condBF rfl (by omega) ?_
          refine T.skip ?_
          exact ⟨_, ⟨_, n1, by simp at hal; rw [hn1]; simp [rAmt, hal], (updS rfl (updS rfl (updS rfl (updS rfl (updS rfl (updS rfl (updS rfl (updS rfl (updS rfl (updS rfl rfl)))))))))), rfl⟩, Sub.any⟩
      rintro fz lz ⟨f0, n2, hn2, rfl, rfl⟩
      try simp only [List.cons_append, List.nil_append]
      have hd1 := hD.data pend[k] (List.getElem_mem _)
      have ha1 := hD.at_ pend[k] (List.getElem_mem _)
      simp only [hsl] at ha1
      have hn2' := rAmt_le al keep tear at_ k
      rw [← hn2] at hn2'
      have hs1 : (S[pend[k].1]'(by omega)).length = 256 := hSl _ (List.getElem_mem _)
      refine T.drawAll 17 (by kernel_rfl) (Nat.le_of_ble_eq_true rfl) (by kernel_rfl) ?_
      refine RW.q 0 rfl rfl (by kernel_rfl) (Sub.refl _) (Qt.fieldAddr0 (by kernel_rfl) rfl) ?_
      first | refine RW.q 1 rfl rfl (by kernel_rfl) (Sub.refl _) (Qt.load (by kernel_rfl) rfl rfl) ?_ | refine RW.q 1 rfl rfl (by kernel_rfl) (Sub.refl _) (Qt.load (by kernel_rfl) rfl (map_at _ _ _ (by omega))) ?_ | refine RW.q 1 rfl rfl (by kernel_rfl) (Sub.refl _) (Qt.load (by kernel_rfl) rfl (flat_cell0 _ _ _ (by intros; rfl) _ (by omega) (by rfl))) ?_ | refine RW.q 1 rfl rfl (by kernel_rfl) (Sub.refl _) (Qt.load (by kernel_rfl) rfl (flat_cell _ _ _ (by intros; rfl) _ _ (by omega) (by rfl))) ?_ | refine RW.q 1 rfl rfl (by kernel_rfl) (Sub.refl _) (Qt.load (by kernel_rfl) rfl (bytes_at _ _ (by omega))) ?_
      refine RW.q 2 rfl rfl (by kernel_rfl) (Sub.refl _) (Qt.fieldAddr0 (by kernel_rfl) rfl) ?_
      first | refine RW.q 3 rfl rfl (by kernel_rfl) (Sub.refl _) (Qt.load (by kernel_rfl) rfl rfl) ?_ | refine RW.q 3 rfl rfl (by kernel_rfl) (Sub.refl _) (Qt.load (by kernel_rfl) rfl (map_at _ _ _ (by omega))) ?_ | refine RW.q 3 rfl rfl (by kernel_rfl) (Sub.refl _) (Qt.load (by kernel_rfl) rfl (flat_cell0 _ _ _ (by intros; rfl) _ (by omega) (by rfl))) ?_ | refine RW.q 3 rfl rfl (by kernel_rfl) (Sub.refl _) (Qt.load (by kernel_rfl) rfl (flat_cell _ _ _ (by intros; rfl) _ _ (by omega) (by rfl))) ?_ | refine RW.q 3 rfl rfl (by kernel_rfl) (Sub.refl _) (Qt.load (by kernel_rfl) rfl (bytes_at _ _ (by omega))) ?_
      refine RW.q 4 rfl rfl (by kernel_rfl) (Sub.refl _) (Qt.fieldAddr (off := 1) (by kernel_rfl) rfl) ?_
      first | refine RW.q 5 rfl rfl (by kernel_rfl) (Sub.refl _) (Qt.load (by kernel_rfl) rfl rfl) ?_ | refine RW.q 5 rfl rfl (by kernel_rfl) (Sub.refl _) (Qt.load (by kernel_rfl) rfl (map_at _ _ _ (by omega))) ?_ | refine RW.q 5 rfl rfl (by kernel_rfl) (Sub.refl _) (Qt.load (by kernel_rfl) rfl (flat_cell0 _ _ _ (by intros; rfl) _ (by omega) (by rfl))) ?_ | refine RW.q 5 rfl rfl (by kernel_rfl) (Sub.refl _) (Qt.load (by kernel_rfl) rfl (flat_cell _ _ _ (by intros; rfl) _ _ (by omega) (by rfl))) ?_ | refine RW.q 5 rfl rfl (by kernel_rfl) (Sub.refl _) (Qt.load (by kernel_rfl) rfl (bytes_at _ _ (by omega))) ?_
      refine RW.q 6 rfl rfl (by kernel_rfl) (Sub.refl _) (Qt.move rfl) ?_
      refine RW.q 7 rfl rfl (by kernel_rfl) (Sub.refl _) (Qt.sliceS_ns _ (by kernel_rfl) rfl rfl rfl (by omega)) ?_
      refine RW.q 8 rfl rfl (by kernel_rfl) (Sub.refl _) (Qt.fieldAddr0 (by kernel_rfl) rfl) ?_
      first | refine RW.q 9 rfl rfl (by kernel_rfl) (Sub.refl _) (Qt.load (by kernel_rfl) rfl rfl) ?_ | refine RW.q 9 rfl rfl (by kernel_rfl) (Sub.refl _) (Qt.load (by kernel_rfl) rfl (map_at _ _ _ (by omega))) ?_ | refine RW.q 9 rfl rfl (by kernel_rfl) (Sub.refl _) (Qt.load (by kernel_rfl) rfl (flat_cell0 _ _ _ (by intros; rfl) _ (by omega) (by rfl))) ?_ | refine RW.q 9 rfl rfl (by kernel_rfl) (Sub.refl _) (Qt.load (by kernel_rfl) rfl (flat_cell _ _ _ (by intros; rfl) _ _ (by omega) (by rfl))) ?_ | refine RW.q 9 rfl rfl (by kernel_rfl) (Sub.refl _) (Qt.load (by kernel_rfl) rfl (bytes_at _ _ (by omega))) ?_
      refine RW.q 10 rfl rfl (by kernel_rfl) (Sub.refl _) (Qt.fieldAddr0 (by kernel_rfl) rfl) ?_
      first | refine RW.q 11 rfl rfl (by kernel_rfl) (Sub.refl _) (Qt.load (by kernel_rfl) rfl rfl) ?_ | refine RW.q 11 rfl rfl (by kernel_rfl) (Sub.refl _) (Qt.load (by kernel_rfl) rfl (map_at _ _ _ (by omega))) ?_ | refine RW.q 11 rfl rfl (by kernel_rfl) (Sub.refl _) (Qt.load (by kernel_rfl) rfl (flat_cell0 _ _ _ (by intros; rfl) _ (by omega) (by rfl))) ?_ | refine RW.q 11 rfl rfl (by kernel_rfl) (Sub.refl _) (Qt.load (by kernel_rfl) rfl (flat_cell _ _ _ (by intros; rfl) _ _ (by omega) (by rfl))) ?_ | refine RW.q 11 rfl rfl (by kernel_rfl) (Sub.refl _) (Qt.load (by kernel_rfl) rfl (bytes_at _ _ (by omega))) ?_
      refine RW.q 12 rfl rfl (by kernel_rfl) (Sub.refl _) (Qt.index _ (e := 9) (sz := 1) (by kernel_rfl) rfl rfl rfl (by omega)) ?_
      first | refine RW.q 13 rfl rfl (by kernel_rfl) (Sub.refl _) (Qt.load (by kernel_rfl) rfl rfl) ?_ | refine RW.q 13 rfl rfl (by kernel_rfl) (Sub.refl _) (Qt.load (by kernel_rfl) rfl (map_at _ _ _ (by omega))) ?_ | refine RW.q 13 rfl rfl (by kernel_rfl) (Sub.refl _) (Qt.load (by kernel_rfl) rfl (flat_cell0 _ _ _ (by intros; rfl) _ (by omega) (by rfl))) ?_ | refine RW.q 13 rfl rfl (by kernel_rfl) (Sub.refl _) (Qt.load (by kernel_rfl) rfl (flat_cell _ _ _ (by intros; rfl) _ _ (by omega) (by rfl))) ?_ | refine RW.q 13 rfl rfl (by kernel_rfl) (Sub.refl _) (Qt.load (by kernel_rfl) rfl (bytes_at _ _ (by omega))) ?_
      refine RW.q 14 rfl rfl (by kernel_rfl) (Sub.refl _) (Qt.move rfl) ?_
      refine RW.q 15 rfl rfl (by kernel_rfl) (Sub.refl _) (Qt.sliceS_sn _ (by kernel_rfl) rfl rfl rfl (by omega)) ?_
      refine RW.q 16 rfl rfl (by kernel_rfl) (Sub.refl _) (Qt.addS rfl rfl (by simp only [List.length_take, List.length_drop]; omega)) ?_
      refine RW.done (by rfl) ?_
      simp only [List.drop_succ_cons, List.drop_zero, List.drop_nil]
      refine LW.q rfl (Qt.index _ (e := 9) (sz := 1) (by kernel_rfl) rfl rfl rfl (by omega)) ?_
      refine LW.e0 rfl (Ef.store1 (by kernel_rfl) rfl rfl rfl (by first | (simp; done) | (simp; omega)) ?_)
      try simp only [List.set_cons_zero, List.set_cons_succ]
      rw [set_map strW]
      refine LW.done ?_
      refine T.region ?_
      refine LW.q rfl (Qt.move rfl) ?_
      refine LW.q rfl (Qt.add rfl rfl (wr64 (by omega) (by omega))) ?_
      refine LW.q rfl (Qt.assign rfl) ?_
      refine LW.done ?_
      refine ⟨_, ?_, _, ⟨_, k + 1, S.set pend[k].1 (pend[k].2.take n2 ++ (S[pend[k].1]'(by omega)).drop n2), ⟨by omega, by rw [DD.lays_some ⟨secs, pend⟩ (fun i => some (rAmt al keep tear at_ i)) k n2 (by simp only; omega) (by rw [hn2]), ← hS]; simp [layW, List.getD, List.getElem?_eq_getElem (show pend[k].1 < S.length by omega)]⟩, rfl, (updS rfl (updS rfl (updS rfl (updS rfl (updS rfl (updS rfl (updS rfl (updS rfl rfl)))))))), rfl⟩, Sub.any⟩
      first | omega | (simp; omega)
    · skip
      have e : k = m := by omega
      subst e
      subst hS
      refine T.conv (fun w ho => Rf.nilW ho) ?_
      refine T.exit ?_
      refine T.seq ?_
      refine T.region ?_
      first | refine LW.q rfl (Qt.loadAgg [_, _] (by kernel_rfl) rfl ⟨rfl, rfl, trivial⟩) ?_ | refine LW.q rfl (Qt.loadAgg [_, _] (by kernel_rfl) rfl (by exact rdl_flat _ _ _ (by intros; rfl) _ (by omega))) ?_
      refine LW.e0 rfl (Ef.store [_, _] (by kernel_rfl) rfl rfl rfl rfl (by simp) ?_)
      try simp only [splice, List.length_cons, List.length_nil, List.drop_succ_cons, List.cons_append, List.take_succ_cons, List.take_zero, List.drop_zero, List.nil_append, List.append_nil]
      refine LW.done ?_
      refine T.ret ?_
      exact ⟨.inl rfl, _, _, res [_] rfl ⟨rvA [_, _] (by kernel_rfl) rfl ⟨rfl, rfl, trivial⟩, trivial⟩, ⟨_, _, rfl, rfl⟩, Sub.any⟩
end Go.Proofs.YtjjhbpjbngdlnaaDoor

/- The statement DiskPlays: its functions step and looks. Conditions: sizes. -/
namespace Go.Proofs.YtjjhbpjbngdlnaaDoor
open Go.RowKit

theorem layW_zero (S : List (List UInt8)) (n : Nat) (d : List UInt8) : layW S n 0 d = S := by
  unfold layW
  rw [List.take_zero, List.drop_zero, List.nil_append]
  by_cases h : n < S.length
  · rw [List.getD_eq_getElem?_getD, List.getElem?_eq_getElem h, Option.getD_some, List.set_getElem_self]
  · rw [List.set_eq_of_length_le (by omega)]
theorem lays_amt (D : DD) (keep : List Bool) (tear at_ : Int) : ∀ k, k ≤ D.pend.length → D.lays (fun i => some (rAmt false keep tear at_ i)) k = D.lays (amount keep tear at_) k
  | 0, _ => rfl
  | k + 1, h => by
    have ih := lays_amt D keep tear at_ k (by omega)
    rw [DD.lays_some D (fun i => some (rAmt false keep tear at_ i)) k _ (by omega) rfl, ih]
    by_cases h1 : (k : Int) = tear
    · rw [DD.lays_some D (amount keep tear at_) k (clampN at_) (by omega) (by simp [amount, h1])]
      simp [rAmt, h1]
    · by_cases h2 : keep.getD k false = true
      · rw [DD.lays_some D (amount keep tear at_) k 256 (by omega) (by unfold amount; rw [if_neg h1, if_pos h2])]
        congr 1
        unfold rAmt
        rw [if_neg (by simp), if_neg h1, if_pos h2]
      · rw [DD.lays_none D (amount keep tear at_) k (by omega) (by unfold amount; rw [if_neg h1, if_neg h2])]
        have : rAmt false keep tear at_ k = 0 := by
          unfold rAmt
          rw [if_neg (by simp), if_neg h1, if_neg h2]
        rw [this, layW_zero]
theorem lays_all (D : DD) (keep : List Bool) (tear at_ : Int) (k : Nat) : D.lays (fun i => some (rAmt true keep tear at_ i)) k = D.lays (fun _ => some 256) k := by
  have : (fun i => some (rAmt true keep tear at_ i)) = fun _ => some 256 := by funext i; simp [rAmt]
  rw [this]

theorem RoS.form {B : Base} {v : Value} {cs : List Value} {n : Nat} (h : RoS B v cs) (hn : cs.length = n) : ∃ a cap, v = .slice a n cap := by
  obtain ⟨a, cap, rfl, _⟩ := h
  exact ⟨a, cap, by rw [hn]⟩
theorem RoS.str {B : Base} {S : List Assn} {v : Value} {cs : List Value} (h : RoS B v cs) : ∀ w, Own B w S → ∃ fp, Reads w v cs fp := fun _ ho => let ⟨fp, h1, _⟩ := h.reads ho; ⟨fp, h1⟩

abbrev rA (p q : Option Addr) (a c : Nat) (D : DD) : Value := .agg #[.slice p D.secs.length a, .slice q D.pend.length c]
abbrev rL (p q : Option Addr) (a c : Nat) (D : DD) : List Assn := [rS (.slice p D.secs.length a) D.secs.length D.secs, rW (.slice q D.pend.length c) D.pend.length D.pend]

end Go.Proofs.YtjjhbpjbngdlnaaDoor
