/- The texts RfZ SlI RcA RcB WlL WlM WlN RlA RlB, one behind the other: what the law leans on. Conditions: as each theorem says. -/
import Derived.Test.YtegohgaccmkigaaGreatDoorZBufferPlays6
/- The texts RfA RfB RfC RfD RfE, one behind the other. Conditions: as each theorem says. -/
set_option linter.unusedSimpArgs false
set_option linter.unusedVariables false
/- The document's disk (annalsref01): walks of blank, Copy, New, Put, Read, Crash. Conditions: sizes, as each says. -/
namespace Go.Proofs.YtegohgaccmkigaaGreatDoor
open Go.RowKit

abbrev strW (d : List UInt8) : Value := .string (strOf d)
def rpV (p : Nat × List UInt8) : List Value := [.int .i64 p.1, strW p.2]
theorem one_strW {l : List (List UInt8)} : ∀ v ∈ l.map strW, v.oneCell' = true := by
  intro v hv; obtain ⟨d, _, rfl⟩ := List.mem_map.1 hv; rfl
theorem one_rpV {l : List (Nat × List UInt8)} : ∀ v ∈ l.flatMap rpV, v.oneCell' = true := by
  intro v hv
  obtain ⟨p, _, hp⟩ := List.mem_flatMap.1 hv
  simp only [rpV, List.mem_cons, List.not_mem_nil, or_false] at hp
  rcases hp with rfl | rfl <;> rfl
theorem Rf.elemS : ElemOk Tryz.prog 27 9 1 16 := .mk' (.string ⟨#[]⟩) Tryz.underlying27 (by kernel_rfl) rfl (by omega)
theorem Rf.elemW : ElemOk Tryz.prog 28 130 2 24 := .mk' (.agg #[.int .i64 0, .string ⟨#[]⟩]) Tryz.underlying28 (by kernel_rfl) rfl (by omega)

/-- The document's disk as two slices. -/
abbrev rS (v : Value) (n : Nat) (secs : List (List UInt8)) : Assn := row v 9 1 n (secs.map strW)
abbrev rW (v : Value) (n : Nat) (pend : List (Nat × List UInt8)) : Assn := row v 130 2 n (pend.flatMap rpV)
theorem Rf.nilS {B : Base} {w : World} {l : List Assn} (h : Own B w l) : Own B w (rS (.slice none 0 0) 0 [] :: l) := h.row_nil _ _
theorem Rf.nilW {B : Base} {w : World} {l : List Assn} (h : Own B w l) : Own B w (rW (.slice none 0 0) 0 [] :: l) := h.row_nil _ _

set_option maxRecDepth 100000 in
theorem Rf.copy (B : Base) (p q : Option Addr) (a b n m : Nat) (secs : List (List UInt8)) (pend : List (Nat × List UInt8)) (hs : n ≤ 4096) (hp : m < 2 ^ 32) :
    Fn Tryz.prog B 51 #[.agg #[.slice p n a, .slice q m b]] [rS (.slice p n a) n secs, rW (.slice q m b) m pend] (fun v l => ∃ p' a' q' b', v = .agg #[.slice p' n a', .slice q' m b'] ∧ l = [rS (.slice p' n a') n secs, rW (.slice q' m b') m pend, rS (.slice p n a) n secs, rW (.slice q m b) m pend]) := by
  refine Fn.enter1 18 Tryz.func51 rfl rfl (Nat.le_of_ble_eq_true rfl) (fun F => ?_)
  try simp only [List.cons_append, List.nil_append]
  refine T.seq ?_
  refine T.region ?_
  refine LW.e rfl (Ef.box [_, _] rfl rfl ?_)
  intro g1
  refine LW.e rfl (Ef.alloc [.slice none 0 0, .slice none 0 0] (by unfold zeroB; kernel_rfl) ?_)
  intro g2
  refine LW.done ?_
  refine T.seq ?_
  refine T.region ?_
  refine LW.q rfl (Qt.build [(0, 1), (1, 1)] [.slice none 0 0, .slice none 0 0] [_, _] [] (by kernel_rfl) (by unfold zeroB; kernel_rfl) rfl rfl) ?_
  refine LW.e rfl (Ef.alloc [.slice none 0 0, .slice none 0 0] (by unfold zeroB; kernel_rfl) ?_)
  intro g3
  refine LW.e0 rfl (Ef.store [_, _] (by kernel_rfl) rfl rfl rfl rfl (by simp) ?_)
  try simp only [splice, List.length_cons, List.length_nil, List.drop_succ_cons, List.cons_append, List.take_succ_cons, List.take_zero, List.drop_zero, List.nil_append, List.append_nil]
  refine LW.done ?_
  refine T.seq ?_
  refine T.region ?_
  refine LW.q rfl (Qt.fieldAddr0 (by kernel_rfl) rfl) ?_
  first | refine LW.q rfl (Qt.load (by kernel_rfl) rfl rfl) ?_ | refine LW.q rfl (Qt.load (by kernel_rfl) rfl (map_at _ _ _ (by omega))) ?_ | refine LW.q rfl (Qt.load (by kernel_rfl) rfl (flat_cell0 _ _ _ (by intros; rfl) _ (by omega) (by rfl))) ?_ | refine LW.q rfl (Qt.load (by kernel_rfl) rfl (flat_cell _ _ _ (by intros; rfl) _ _ (by omega) (by rfl))) ?_ | refine LW.q rfl (Qt.load (by kernel_rfl) rfl (bytes_at _ _ (by omega))) ?_
  refine LW.q rfl (Qt.fieldAddr0 (by kernel_rfl) rfl) ?_
  first | refine LW.q rfl (Qt.load (by kernel_rfl) rfl rfl) ?_ | refine LW.q rfl (Qt.load (by kernel_rfl) rfl (map_at _ _ _ (by omega))) ?_ | refine LW.q rfl (Qt.load (by kernel_rfl) rfl (flat_cell0 _ _ _ (by intros; rfl) _ (by omega) (by rfl))) ?_ | refine LW.q rfl (Qt.load (by kernel_rfl) rfl (flat_cell _ _ _ (by intros; rfl) _ _ (by omega) (by rfl))) ?_ | refine LW.q rfl (Qt.load (by kernel_rfl) rfl (bytes_at _ _ (by omega))) ?_
  refine LW.e rfl (Ef.appendNil Rf.elemS rfl rfl (SrcOf.row (by kernel_rfl) one_strW) (by unfold maxLen; omega) (by omega) ?_)
  rintro p1 c1 hp1
  try simp only [List.cons_append, List.nil_append]
  refine LW.q rfl (Qt.fieldAddr0 (by kernel_rfl) rfl) ?_
  refine LW.e0 rfl (Ef.store1 (by kernel_rfl) rfl rfl rfl (by first | (simp; done) | (simp; omega)) ?_)
  try simp only [List.set_cons_zero, List.set_cons_succ]
  refine LW.done ?_
  refine T.seq ?_
  refine T.region ?_
  refine LW.q rfl (Qt.fieldAddr (off := 1) (by kernel_rfl) rfl) ?_
  first | refine LW.q rfl (Qt.load (by kernel_rfl) rfl rfl) ?_ | refine LW.q rfl (Qt.load (by kernel_rfl) rfl (map_at _ _ _ (by omega))) ?_ | refine LW.q rfl (Qt.load (by kernel_rfl) rfl (flat_cell0 _ _ _ (by intros; rfl) _ (by omega) (by rfl))) ?_ | refine LW.q rfl (Qt.load (by kernel_rfl) rfl (flat_cell _ _ _ (by intros; rfl) _ _ (by omega) (by rfl))) ?_ | refine LW.q rfl (Qt.load (by kernel_rfl) rfl (bytes_at _ _ (by omega))) ?_
  refine LW.q rfl (Qt.fieldAddr (off := 1) (by kernel_rfl) rfl) ?_
  first | refine LW.q rfl (Qt.load (by kernel_rfl) rfl rfl) ?_ | refine LW.q rfl (Qt.load (by kernel_rfl) rfl (map_at _ _ _ (by omega))) ?_ | refine LW.q rfl (Qt.load (by kernel_rfl) rfl (flat_cell0 _ _ _ (by intros; rfl) _ (by omega) (by rfl))) ?_ | refine LW.q rfl (Qt.load (by kernel_rfl) rfl (flat_cell _ _ _ (by intros; rfl) _ _ (by omega) (by rfl))) ?_ | refine LW.q rfl (Qt.load (by kernel_rfl) rfl (bytes_at _ _ (by omega))) ?_
  refine LW.e rfl (Ef.appendNil Rf.elemW rfl rfl (SrcOf.row (by kernel_rfl) one_rpV) (by unfold maxLen; omega) (by omega) ?_)
  rintro p2 c2 hp2
  try simp only [List.cons_append, List.nil_append]
  refine LW.q rfl (Qt.fieldAddr (off := 1) (by kernel_rfl) rfl) ?_
  refine LW.e0 rfl (Ef.store1 (by kernel_rfl) rfl rfl rfl (by first | (simp; done) | (simp; omega)) ?_)
  try simp only [List.set_cons_zero, List.set_cons_succ]
  refine LW.done ?_
  refine T.seq ?_
  refine T.region ?_
  first | refine LW.q rfl (Qt.loadAgg [_, _] (by kernel_rfl) rfl ⟨rfl, rfl, trivial⟩) ?_ | refine LW.q rfl (Qt.loadAgg [_, _] (by kernel_rfl) rfl (by exact rdl_flat _ _ _ (by intros; rfl) _ (by omega))) ?_
  refine LW.e0 rfl (Ef.store [_, _] (by kernel_rfl) rfl rfl rfl rfl (by simp) ?_)
  try simp only [splice, List.length_cons, List.length_nil, List.drop_succ_cons, List.cons_append, List.take_succ_cons, List.take_zero, List.drop_zero, List.nil_append, List.append_nil]
  refine LW.done ?_
  refine T.ret ?_
  exact ⟨.inl rfl, _, _, res [_] rfl ⟨rvA [_, _] (by kernel_rfl) rfl ⟨rfl, rfl, trivial⟩, trivial⟩, ⟨_, _, _, _, rfl, rfl⟩, Sub.any⟩
end Go.Proofs.YtegohgaccmkigaaGreatDoor

/- The document's disk (annalsref01): walks of blank, New, Put, Read. Conditions: sizes, as each says. -/
namespace Go.Proofs.YtegohgaccmkigaaGreatDoor
open Go.RowKit

theorem made_zs : (madeCells (Value.int .u8 0).cells (256 * 1)).toList = bytesV zs := by
  rw [show (Value.int .u8 0).cells = (List.replicate 1 (Value.int .u8 0)).toArray from rfl, made_replicate _ 1 _ (by omega)]
  unfold zs bytesV
  rw [List.map_replicate]
  rfl
set_option maxRecDepth 100000 in
theorem Rf.blank (B : Base) : Fn Tryz.prog B 22 #[] [] (fun v l => v = strW zs ∧ l = []) := by
  have hz : zs.length = 256 := by simp [zs]
  refine Fn.enter0 3 Tryz.func22 rfl rfl (Nat.le_of_ble_eq_true rfl) (fun F => ?_)
  try simp only [List.cons_append, List.nil_append]
  refine T.seq ?_
  refine T.region ?_
  refine LW.q rfl (Qt.assign rfl) ?_
  refine LW.done ?_
  refine T.seq ?_
  refine T.region ?_
  refine LW.e rfl (Ef.make 256 (.int .u8 0) 1 Dk.elemB (by kernel_rfl) rfl rfl rfl rfl (by omega) (by unfold maxLen; omega) ?_)
  rintro g1
  try simp only [List.cons_append, List.nil_append]
  rw [made_zs]
  refine LW.q rfl (Qt.str zs (by kernel_rfl) (by kernel_rfl) rfl (fun _ ho => ho.reads_row hz)) ?_
  refine LW.q rfl (Qt.assign rfl) ?_
  refine LW.done ?_
  refine T.ret ?_
  exact ⟨.inl rfl, _, _, res [_] rfl ⟨rvT rfl, trivial⟩, ⟨rfl, rfl⟩, Sub.any⟩

set_option maxRecDepth 100000 in
theorem Rf.new (B : Base) (n : Nat) (h1 : 1 ≤ n) (h2 : n ≤ 4096) : Fn Tryz.prog B 7 #[.int .i64 n] [] (fun v l => ∃ p c q d, v = .tuple #[.agg #[.slice p n c, .slice q 0 d], .int .i64 0] ∧ l = [rS (.slice p n c) n (List.replicate n zs), rW (.slice q 0 d) 0 []]) := by
 refine Fn.enter1 26 Tryz.func7 rfl rfl (Nat.le_of_ble_eq_true rfl) (fun F => ?_)
 try simp only [List.cons_append, List.nil_append]
 refine T.seq ?_
 refine T.region ?_
 refine LW.e rfl (Ef.alloc [.slice none 0 0, .slice none 0 0] (by unfold zeroB; kernel_rfl) ?_)
 intro g2
 refine LW.q rfl (Qt.assign rfl) ?_
 refine LW.done ?_
 refine T.seq ?_
 refine T.seq ?_
 refine T.region ?_
 refine LW.q rfl (Qt.move rfl) ?_
 refine LW.q rfl (Qt.lss rfl rfl) ?_
 refine LW.q rfl (Qt.move rfl) ?_
 first | refine LW.gF (t := 8) rfl rfl ?_ | refine LW.gF (t := 8) rfl (decide_eq_false (by omega)) ?_ | refine LW.gF (t := 8) rfl (by omega) ?_
 refine LW.q rfl (Qt.move rfl) ?_
 refine LW.q rfl (Qt.gtr rfl rfl) ?_
 refine LW.q rfl (Qt.pick rfl rfl) ?_
 refine LW.done ?_
 first | refine T.condF rfl ?_ | refine T.condPF rfl (by omega) ?_ | refine T.condBF rfl (by omega) ?_
 refine T.conv (fun w ho => Rf.nilS ho) ?_
 refine T.skip ?_
 refine T.seq ?_
 refine T.region ?_
 refine LW.q rfl (Qt.build [(0, 1), (1, 1)] [.slice none 0 0, .slice none 0 0] [_, _] [] (by kernel_rfl) (by unfold zeroB; kernel_rfl) rfl rfl) ?_
 refine LW.e rfl (Ef.alloc [.slice none 0 0, .slice none 0 0] (by unfold zeroB; kernel_rfl) ?_)
 intro g4
 refine LW.e0 rfl (Ef.store [_, _] (by kernel_rfl) rfl rfl rfl rfl (by simp) ?_)
 try simp only [splice, List.length_cons, List.length_nil, List.drop_succ_cons, List.cons_append, List.take_succ_cons, List.take_zero, List.drop_zero, List.nil_append, List.append_nil]
 refine LW.done ?_
 refine T.seq ?_
 refine T.seq ?_
 refine T.region ?_
 refine LW.q rfl (Qt.assign rfl) ?_
 refine LW.done ?_
 refine T.block ?_
 refine T.loop (fun mz fz lz => ∃ (f0 : Fr) (k : Nat) (secs : List (List UInt8)) (p : Option Addr) (c : Nat), (k ≤ n ∧ secs = List.replicate k zs) ∧ mz = n - k ∧ fz = (upd (upd (upd (upd f0 0 (.int .i64 n)) 2 (.pointer (some ⟨g2, 0, none⟩))) 4 (.pointer (some ⟨g4, 0, none⟩))) 5 (.int .i64 k)) ∧ lz = [blk g4 [.slice p k c, .slice none 0 0] 30, rS (.slice p k c) k secs, blk g2 [.slice none 0 0, .slice none 0 0] 30] ++ F) ?_ ?_
 · refine ⟨_, _, ⟨_, 0, [], none, 0, ⟨by simp, rfl⟩, rfl, (updS rfl (updS rfl (updS rfl (updS rfl rfl)))), rfl⟩, Sub.any⟩
 ·
  rintro mz fz lz ⟨f0, k, secs, p, c, ⟨hk, hz⟩, hmz, rfl, rfl⟩
  subst mz
  try simp only [List.cons_append, List.nil_append]
  refine T.seq ?_
  refine T.seq ?_
  refine T.region ?_
  refine LW.q rfl (Qt.move rfl) ?_
  refine LW.q rfl (Qt.move rfl) ?_
  refine LW.q rfl (Qt.lss rfl rfl) ?_
  refine LW.done ?_
  refine T.condP rfl (fun hlt => ?_) (fun hlt => ?_)
  ·
   refine T.skip ?_
   refine T.seq ?_
   refine T.block ?_
   refine T.draw 5 ([blk g4 [.slice p k c, .slice none 0 0] 30]) (by kernel_rfl) (Nat.le_of_ble_eq_true rfl) (by kernel_rfl) ?_
   refine RW.q 0 rfl rfl (by kernel_rfl) Sub.any (Qt.fieldAddr0 (by kernel_rfl) rfl) ?_
   first | refine RW.q 1 rfl rfl (by kernel_rfl) Sub.any (Qt.load (by kernel_rfl) rfl rfl) ?_ | refine RW.q 1 rfl rfl (by kernel_rfl) Sub.any (Qt.load (by kernel_rfl) rfl (map_at _ _ _ (by omega))) ?_ | refine RW.q 1 rfl rfl (by kernel_rfl) Sub.any (Qt.load (by kernel_rfl) rfl (flat_cell0 _ _ _ (by intros; rfl) _ (by omega) (by rfl))) ?_ | refine RW.q 1 rfl rfl (by kernel_rfl) Sub.any (Qt.load (by kernel_rfl) rfl (flat_cell _ _ _ (by intros; rfl) _ _ (by omega) (by rfl))) ?_ | refine RW.q 1 rfl rfl (by kernel_rfl) Sub.any (Qt.load (by kernel_rfl) rfl (bytes_at _ _ (by omega))) ?_
   refine RW.one 2 (by kernel_rfl) ?_
   refine RO.eS rfl rfl (Ef.call (Rf.blank B) Tryz.func22 rfl rfl rfl ?_)
   rintro _ _ ⟨rfl, rfl⟩
   try simp only [List.cons_append, List.nil_append]
   refine ⟨Sub.any, ?_⟩
   refine RW.one 3 (by kernel_rfl) ?_
   refine RO.eS rfl rfl (Ef.one [_] (e := 9) (sz := 1) (by kernel_rfl) ⟨.string .empty, by kernel_rfl, rfl⟩ rfl rfl rfl (by omega) (by omega) ?_)
   intro g22
   refine ⟨Sub.any, ?_⟩
   refine RW.one 4 (by kernel_rfl) ?_
   refine RO.eS rfl rfl (Ef.append Rf.elemS rfl rfl (SrcOf.blk (by kernel_rfl) rfl (by simp [Value.oneCell', strW])) (by unfold maxLen; omega) (by omega) ?_)
   rintro p2 c2 hp2
   try simp only [List.cons_append, List.nil_append]
   rw [map_snoc]
   refine ⟨Sub.any, ?_⟩
   refine RW.done (by rfl) ?_
   simp only [List.drop_succ_cons, List.drop_zero, List.drop_nil]
   refine LW.q rfl (Qt.fieldAddr0 (by kernel_rfl) rfl) ?_
   refine LW.e0 rfl (Ef.store1 (by kernel_rfl) rfl rfl rfl (by first | (simp; done) | (simp; omega)) ?_)
   try simp only [List.set_cons_zero, List.set_cons_succ]
   refine LW.done ?_
   refine T.region ?_
   refine LW.q rfl (Qt.move rfl) ?_
   refine LW.q rfl (Qt.add rfl rfl (wr64 (by omega) (by omega))) ?_
   refine LW.q rfl (Qt.assign rfl) ?_
   refine LW.done ?_
   refine ⟨_, ?_, _, ⟨_, k + 1, secs ++ [zs], p2, c2, ⟨by omega, by rw [List.replicate_succ', ← hz]⟩, rfl, (updS rfl (updS rfl (updS rfl (updS rfl rfl)))), rfl⟩, Sub.any⟩
   first | omega | (simp; omega)
  ·
   have e : k = n := by omega
   subst e
   subst hz
   refine T.conv (fun w ho => Rf.nilW ho) ?_
   refine T.exit ?_
   refine T.seq ?_
   refine T.region ?_
   first | refine LW.q rfl (Qt.loadAgg [_, _] (by kernel_rfl) rfl ⟨rfl, rfl, trivial⟩) ?_ | refine LW.q rfl (Qt.loadAgg [_, _] (by kernel_rfl) rfl (by exact rdl_flat _ _ _ (by intros; rfl) _ (by omega))) ?_
   refine LW.e0 rfl (Ef.store [_, _] (by kernel_rfl) rfl rfl rfl rfl (by simp) ?_)
   try simp only [splice, List.length_cons, List.length_nil, List.drop_succ_cons, List.cons_append, List.take_succ_cons, List.take_zero, List.drop_zero, List.nil_append, List.append_nil]
   refine LW.q rfl (Qt.assign rfl) ?_
   refine LW.done ?_
   refine T.ret ?_
   exact ⟨.inl rfl, _, _, res [_, _] rfl ⟨rvA [_, _] (by kernel_rfl) rfl ⟨rfl, rfl, trivial⟩, rvT rfl, trivial⟩, ⟨_, _, _, _, rfl, rfl⟩, Sub.any⟩
end Go.Proofs.YtegohgaccmkigaaGreatDoor

/- The document's disk (annalsref01): walks of Put and Read. Conditions: sizes, as each says. -/
namespace Go.Proofs.YtegohgaccmkigaaGreatDoor
open Go.RowKit

set_option maxRecDepth 100000 in
theorem Rf.put (B : Base) (p q : Option Addr) (a b n m : Nat) (i : Int) (j : Nat) (hi : i = j) (dat : List UInt8) (secs : List (List UInt8)) (pend : List (Nat × List UInt8)) (hs : n ≤ 4096) (hp : m + 1 < 2 ^ 32) (hn : j < n) (hd : dat.length = 256) :
    Fn Tryz.prog B 27 #[.agg #[.slice p n a, .slice q m b], .int .i64 i, .string (strOf dat)] [rS (.slice p n a) n secs, rW (.slice q m b) m pend]
      (fun v l => ∃ p' a' q' b', v = .tuple #[.agg #[.slice p' n a', .slice q' (m + 1) b'], .int .i64 0] ∧ l = [rS (.slice p' n a') n secs, rW (.slice q' (m + 1) b') (m + 1) (pend ++ [(j, dat)])]) := by
  subst hi
  refine Fn.enter3 34 Tryz.func27 rfl rfl (Nat.le_of_ble_eq_true rfl) (fun F => ?_)
  try simp only [List.cons_append, List.nil_append]
  refine T.seq ?_
  refine T.region ?_
  refine LW.e rfl (Ef.box [_, _] rfl rfl ?_)
  intro g3
  refine LW.e rfl (Ef.alloc [.slice none 0 0, .slice none 0 0] (by unfold zeroB; kernel_rfl) ?_)
  intro g6
  refine LW.q rfl (Qt.assign rfl) ?_
  refine LW.done ?_
  refine T.seq ?_
  refine T.seq ?_
  refine T.region ?_
  refine LW.q rfl (Qt.move rfl) ?_
  refine LW.q rfl (Qt.lss rfl rfl) ?_
  refine LW.q rfl (Qt.move rfl) ?_
  first | refine LW.gF (t := 11) rfl rfl ?_ | refine LW.gF (t := 11) rfl (decide_eq_false (by omega)) ?_ | refine LW.gF (t := 11) rfl (by omega) ?_
  refine LW.q rfl (Qt.move rfl) ?_
  refine LW.q rfl (Qt.fieldAddr0 (by kernel_rfl) rfl) ?_
  first | refine LW.q rfl (Qt.load (by kernel_rfl) rfl rfl) ?_ | refine LW.q rfl (Qt.load (by kernel_rfl) rfl (map_at _ _ _ (by omega))) ?_ | refine LW.q rfl (Qt.load (by kernel_rfl) rfl (flat_cell0 _ _ _ (by intros; rfl) _ (by omega) (by rfl))) ?_ | refine LW.q rfl (Qt.load (by kernel_rfl) rfl (flat_cell _ _ _ (by intros; rfl) _ _ (by omega) (by rfl))) ?_ | refine LW.q rfl (Qt.load (by kernel_rfl) rfl (bytes_at _ _ (by omega))) ?_
  refine LW.q rfl (Qt.len (e := 9) (sz := 1) (by kernel_rfl) rfl) ?_
  refine LW.q rfl (Qt.geq rfl rfl) ?_
  refine LW.q rfl (Qt.pick rfl rfl) ?_
  refine LW.done ?_
  first | refine T.condF rfl ?_ | refine T.condPF rfl (by omega) ?_ | refine T.condBF rfl (by omega) ?_
  refine T.skip ?_
  refine T.seq ?_
  refine T.seq ?_
  refine T.region ?_
  refine LW.q rfl (Qt.move rfl) ?_
  first | refine LW.q rfl (Qt.lenSt (by kernel_rfl) rfl) ?_ | refine LW.q rfl (Qt.lenS (by kernel_rfl) rfl) ?_
  refine LW.q rfl (Qt.neq rfl rfl) ?_
  refine LW.done ?_
  first | refine T.condF rfl ?_ | refine T.condPF rfl (by omega) ?_ | refine T.condBF rfl (by omega) ?_
  refine T.skip ?_
  refine T.seq ?_
  refine T.region ?_
  first | refine LW.q rfl (Qt.loadAgg [_, _] (by kernel_rfl) rfl ⟨rfl, rfl, trivial⟩) ?_ | refine LW.q rfl (Qt.loadAgg [_, _] (by kernel_rfl) rfl (by exact rdl_flat _ _ _ (by intros; rfl) _ (by omega))) ?_
  refine LW.e rfl (Ef.call (Rf.copy B p q a b n m secs pend hs (by omega)) Tryz.func51 rfl rfl rfl ?_)
  rintro _ _ ⟨p1, a1, q1, b1, rfl, rfl⟩
  try simp only [List.cons_append, List.nil_append]
  refine LW.e rfl (Ef.alloc [.slice none 0 0, .slice none 0 0] (by unfold zeroB; kernel_rfl) ?_)
  intro g8
  refine LW.e0 rfl (Ef.store [_, _] (by kernel_rfl) rfl rfl rfl rfl (by simp) ?_)
  try simp only [splice, List.length_cons, List.length_nil, List.drop_succ_cons, List.cons_append, List.take_succ_cons, List.take_zero, List.drop_zero, List.nil_append, List.append_nil]
  refine LW.done ?_
  refine T.seq ?_
  refine T.region ?_
  refine LW.q rfl (Qt.fieldAddr (off := 1) (by kernel_rfl) rfl) ?_
  first | refine LW.q rfl (Qt.load (by kernel_rfl) rfl rfl) ?_ | refine LW.q rfl (Qt.load (by kernel_rfl) rfl (map_at _ _ _ (by omega))) ?_ | refine LW.q rfl (Qt.load (by kernel_rfl) rfl (flat_cell0 _ _ _ (by intros; rfl) _ (by omega) (by rfl))) ?_ | refine LW.q rfl (Qt.load (by kernel_rfl) rfl (flat_cell _ _ _ (by intros; rfl) _ _ (by omega) (by rfl))) ?_ | refine LW.q rfl (Qt.load (by kernel_rfl) rfl (bytes_at _ _ (by omega))) ?_
  refine LW.q rfl (Qt.move rfl) ?_
  refine LW.q rfl (Qt.move rfl) ?_
  refine LW.q rfl (Qt.build [(0, 1), (1, 1)] [.int .i64 0, .string .empty] [_, _] [(0, _), (1, _)] (by kernel_rfl) (by unfold zeroB; kernel_rfl) rfl rfl) ?_
  refine LW.e rfl (Ef.one [_, _] (e := 130) (sz := 2) (by kernel_rfl) ⟨.agg #[.int .i64 0, .string .empty], by kernel_rfl, rfl⟩ rfl rfl rfl (by omega) (by omega) ?_)
  intro g30
  refine LW.e rfl (Ef.append Rf.elemW rfl rfl (SrcOf.blk (by kernel_rfl) rfl (by simp [Value.oneCell'])) (by unfold maxLen; omega) (by omega) ?_)
  rintro p2 c2 hp2
  try simp only [List.cons_append, List.nil_append]
  rw [show [Value.int .i64 (j : Int), .string (strOf dat)] = rpV (j, dat) from rfl, flat_snoc]
  refine LW.q rfl (Qt.fieldAddr (off := 1) (by kernel_rfl) rfl) ?_
  refine LW.e0 rfl (Ef.store1 (by kernel_rfl) rfl rfl rfl (by first | (simp; done) | (simp; omega)) ?_)
  try simp only [List.set_cons_zero, List.set_cons_succ]
  refine LW.done ?_
  refine T.seq ?_
  refine T.region ?_
  first | refine LW.q rfl (Qt.loadAgg [_, _] (by kernel_rfl) rfl ⟨rfl, rfl, trivial⟩) ?_ | refine LW.q rfl (Qt.loadAgg [_, _] (by kernel_rfl) rfl (by exact rdl_flat _ _ _ (by intros; rfl) _ (by omega))) ?_
  refine LW.e0 rfl (Ef.store [_, _] (by kernel_rfl) rfl rfl rfl rfl (by simp) ?_)
  try simp only [splice, List.length_cons, List.length_nil, List.drop_succ_cons, List.cons_append, List.take_succ_cons, List.take_zero, List.drop_zero, List.nil_append, List.append_nil]
  refine LW.q rfl (Qt.assign rfl) ?_
  refine LW.done ?_
  refine T.ret ?_
  exact ⟨.inl rfl, _, _, res [_, _] rfl ⟨rvA [_, _] (by kernel_rfl) rfl ⟨rfl, rfl, trivial⟩, rvT rfl, trivial⟩, ⟨_, _, _, _, rfl, rfl⟩, Sub.any⟩

set_option maxRecDepth 100000 in
theorem Rf.read (B : Base) (p q : Option Addr) (a b n m : Nat) (i : Int) (j : Nat) (hi : i = j) (secs : List (List UInt8)) (pend : List (Nat × List UInt8)) (hn : j < n) (hs : n ≤ 4096) (hp : m < 2 ^ 32) :
  Fn Tryz.prog B 23 #[.agg #[.slice p n a, .slice q m b], .int .i64 i] [rS (.slice p n a) n secs, rW (.slice q m b) m pend]
   (fun v l => v = .tuple #[strW (DD.read ⟨secs, pend⟩ j), .int .i64 0] ∧ l = [rS (.slice p n a) n secs, rW (.slice q m b) m pend]) := by
 subst hi
 refine Fn.enter2 44 Tryz.func23 rfl rfl (Nat.le_of_ble_eq_true rfl) (fun F => ?_)
 try simp only [List.cons_append, List.nil_append]
 refine T.own (fun w ho => ?_)
 obtain ⟨-, hg, hsl⟩ := ho.slice_at (p := p) (m := n) (c := a)
 obtain ⟨-, hq, hpl⟩ := ho.slice_at (p := q) (m := m) (c := b)
 obtain ⟨g, rfl⟩ := hg (by omega)
 replace hsl : secs.length = n := by simpa using hsl
 replace hpl : pend.length = m := by rw [flat_length rpV 2 _ (fun _ _ => rfl)] at hpl; omega
 clear ho
 refine T.seq ?_
 refine T.region ?_
 refine LW.e rfl (Ef.box [_, _] rfl rfl ?_)
 intro g2
 refine LW.q rfl (Qt.assign rfl) ?_
 refine LW.q rfl (Qt.assign rfl) ?_
 refine LW.done ?_
 refine T.seq ?_
 refine T.seq ?_
 refine T.region ?_
 refine LW.q rfl (Qt.move rfl) ?_
 refine LW.q rfl (Qt.lss rfl rfl) ?_
 refine LW.q rfl (Qt.move rfl) ?_
 first | refine LW.gF (t := 10) rfl rfl ?_ | refine LW.gF (t := 10) rfl (decide_eq_false (by omega)) ?_ | refine LW.gF (t := 10) rfl (by omega) ?_
 refine LW.q rfl (Qt.move rfl) ?_
 refine LW.q rfl (Qt.fieldAddr0 (by kernel_rfl) rfl) ?_
 first | refine LW.q rfl (Qt.load (by kernel_rfl) rfl rfl) ?_ | refine LW.q rfl (Qt.load (by kernel_rfl) rfl (map_at _ _ _ (by omega))) ?_ | refine LW.q rfl (Qt.load (by kernel_rfl) rfl (flat_cell0 _ _ _ (by intros; rfl) _ (by omega) (by rfl))) ?_ | refine LW.q rfl (Qt.load (by kernel_rfl) rfl (flat_cell _ _ _ (by intros; rfl) _ _ (by omega) (by rfl))) ?_ | refine LW.q rfl (Qt.load (by kernel_rfl) rfl (bytes_at _ _ (by omega))) ?_
 refine LW.q rfl (Qt.len (e := 9) (sz := 1) (by kernel_rfl) rfl) ?_
 refine LW.q rfl (Qt.geq rfl rfl) ?_
 refine LW.q rfl (Qt.pick rfl rfl) ?_
 refine LW.done ?_
 first | refine T.condF rfl ?_ | refine T.condPF rfl (by omega) ?_ | refine T.condBF rfl (by omega) ?_
 refine T.skip ?_
 refine T.seq ?_
 refine T.region ?_
 refine LW.q rfl (Qt.fieldAddr0 (by kernel_rfl) rfl) ?_
 first | refine LW.q rfl (Qt.load (by kernel_rfl) rfl rfl) ?_ | refine LW.q rfl (Qt.load (by kernel_rfl) rfl (map_at _ _ _ (by omega))) ?_ | refine LW.q rfl (Qt.load (by kernel_rfl) rfl (flat_cell0 _ _ _ (by intros; rfl) _ (by omega) (by rfl))) ?_ | refine LW.q rfl (Qt.load (by kernel_rfl) rfl (flat_cell _ _ _ (by intros; rfl) _ _ (by omega) (by rfl))) ?_ | refine LW.q rfl (Qt.load (by kernel_rfl) rfl (bytes_at _ _ (by omega))) ?_
 refine LW.q rfl (Qt.move rfl) ?_
 refine LW.q rfl (Qt.index _ (e := 9) (sz := 1) (by kernel_rfl) rfl rfl rfl (by omega)) ?_
 first | refine LW.q rfl (Qt.load (by kernel_rfl) rfl rfl) ?_ | refine LW.q rfl (Qt.load (by kernel_rfl) rfl (map_at _ _ _ (by omega))) ?_ | refine LW.q rfl (Qt.load (by kernel_rfl) rfl (flat_cell0 _ _ _ (by intros; rfl) _ (by omega) (by rfl))) ?_ | refine LW.q rfl (Qt.load (by kernel_rfl) rfl (flat_cell _ _ _ (by intros; rfl) _ _ (by omega) (by rfl))) ?_ | refine LW.q rfl (Qt.load (by kernel_rfl) rfl (bytes_at _ _ (by omega))) ?_
 refine LW.q rfl (Qt.assign rfl) ?_
 refine LW.done ?_
 refine T.seq ?_
 refine T.seq ?_
 refine T.region ?_
 refine LW.q rfl (Qt.assign rfl) ?_
 refine LW.done ?_
 refine T.block ?_
 refine T.loop (fun mz fz lz => ∃ (f0 : Fr) (k : Nat) (x : List UInt8), (k ≤ m ∧ x = DD.readK ⟨secs, pend⟩ j k) ∧ mz = m - k ∧ fz = (upd (upd (upd (upd f0 1 (.int .i64 j)) 2 (.pointer (some ⟨g2, 0, none⟩))) 6 (strW x)) 7 (.int .i64 k)) ∧ lz = [blk g2 [.slice (some ⟨g, 0, none⟩) n a, .slice q m b] 30, rS (.slice (some ⟨g, 0, none⟩) n a) n secs, rW (.slice q m b) m pend] ++ F) ?_ ?_
 · refine ⟨_, _, ⟨_, 0, _, ⟨Nat.zero_le _, by rw [DD.readK_zero]; simp [hsl, hn]⟩, rfl, (updS rfl (updS rfl (updS rfl (updS rfl rfl)))), rfl⟩, Sub.any⟩
 ·
  rintro mz fz lz ⟨f0, k, x, ⟨hk, hx⟩, hmz, rfl, rfl⟩
  subst mz
  try simp only [List.cons_append, List.nil_append]
  refine T.seq ?_
  refine T.seq ?_
  refine T.region ?_
  refine LW.q rfl (Qt.move rfl) ?_
  refine LW.q rfl (Qt.fieldAddr (off := 1) (by kernel_rfl) rfl) ?_
  first | refine LW.q rfl (Qt.load (by kernel_rfl) rfl rfl) ?_ | refine LW.q rfl (Qt.load (by kernel_rfl) rfl (map_at _ _ _ (by omega))) ?_ | refine LW.q rfl (Qt.load (by kernel_rfl) rfl (flat_cell0 _ _ _ (by intros; rfl) _ (by omega) (by rfl))) ?_ | refine LW.q rfl (Qt.load (by kernel_rfl) rfl (flat_cell _ _ _ (by intros; rfl) _ _ (by omega) (by rfl))) ?_ | refine LW.q rfl (Qt.load (by kernel_rfl) rfl (bytes_at _ _ (by omega))) ?_
  refine LW.q rfl (Qt.len (e := 130) (sz := 2) (by kernel_rfl) rfl) ?_
  refine LW.q rfl (Qt.lss rfl rfl) ?_
  refine LW.done ?_
  refine T.condP rfl (fun hlt => ?_) (fun hlt => ?_)
  ·
   obtain ⟨gq, rfl⟩ := hq (by omega)
   refine T.skip ?_
   refine T.seq ?_
   refine T.block ?_
   refine T.seq ?_
   refine T.region ?_
   refine LW.q rfl (Qt.fieldAddr (off := 1) (by kernel_rfl) rfl) ?_
   first | refine LW.q rfl (Qt.load (by kernel_rfl) rfl rfl) ?_ | refine LW.q rfl (Qt.load (by kernel_rfl) rfl (map_at _ _ _ (by omega))) ?_ | refine LW.q rfl (Qt.load (by kernel_rfl) rfl (flat_cell0 _ _ _ (by intros; rfl) _ (by omega) (by rfl))) ?_ | refine LW.q rfl (Qt.load (by kernel_rfl) rfl (flat_cell _ _ _ (by intros; rfl) _ _ (by omega) (by rfl))) ?_ | refine LW.q rfl (Qt.load (by kernel_rfl) rfl (bytes_at _ _ (by omega))) ?_
   refine LW.q rfl (Qt.move rfl) ?_
   refine LW.q rfl (Qt.index _ (e := 130) (sz := 2) (by kernel_rfl) rfl rfl rfl (by omega)) ?_
   refine LW.q rfl (Qt.fieldAddr0 (by kernel_rfl) rfl) ?_
   first | refine LW.q rfl (Qt.load (by kernel_rfl) rfl rfl) ?_ | refine LW.q rfl (Qt.load (by kernel_rfl) rfl (map_at _ _ _ (by omega))) ?_ | refine LW.q rfl (Qt.load (by kernel_rfl) rfl (flat_cell0 _ _ _ (by intros; rfl) _ (by omega) (by rfl))) ?_ | refine LW.q rfl (Qt.load (by kernel_rfl) rfl (flat_cell _ _ _ (by intros; rfl) _ _ (by omega) (by rfl))) ?_ | refine LW.q rfl (Qt.load (by kernel_rfl) rfl (bytes_at _ _ (by omega))) ?_
   refine LW.q rfl (Qt.move rfl) ?_
   refine LW.q rfl (Qt.eql rfl rfl) ?_
   refine LW.done ?_
   refine T.condP rfl (fun he => ?_) (fun he => ?_)
   ·
    refine T.region ?_
    refine LW.q rfl (Qt.fieldAddr (off := 1) (by kernel_rfl) rfl) ?_
    first | refine LW.q rfl (Qt.load (by kernel_rfl) rfl rfl) ?_ | refine LW.q rfl (Qt.load (by kernel_rfl) rfl (map_at _ _ _ (by omega))) ?_ | refine LW.q rfl (Qt.load (by kernel_rfl) rfl (flat_cell0 _ _ _ (by intros; rfl) _ (by omega) (by rfl))) ?_ | refine LW.q rfl (Qt.load (by kernel_rfl) rfl (flat_cell _ _ _ (by intros; rfl) _ _ (by omega) (by rfl))) ?_ | refine LW.q rfl (Qt.load (by kernel_rfl) rfl (bytes_at _ _ (by omega))) ?_
    refine LW.q rfl (Qt.move rfl) ?_
    refine LW.q rfl (Qt.index _ (e := 130) (sz := 2) (by kernel_rfl) rfl rfl rfl (by omega)) ?_
    refine LW.q rfl (Qt.fieldAddr (off := 1) (by kernel_rfl) rfl) ?_
    first | refine LW.q rfl (Qt.load (by kernel_rfl) rfl rfl) ?_ | refine LW.q rfl (Qt.load (by kernel_rfl) rfl (map_at _ _ _ (by omega))) ?_ | refine LW.q rfl (Qt.load (by kernel_rfl) rfl (flat_cell0 _ _ _ (by intros; rfl) _ (by omega) (by rfl))) ?_ | refine LW.q rfl (Qt.load (by kernel_rfl) rfl (flat_cell _ _ _ (by intros; rfl) _ _ (by omega) (by rfl))) ?_ | refine LW.q rfl (Qt.load (by kernel_rfl) rfl (bytes_at _ _ (by omega))) ?_
    refine LW.q rfl (Qt.assign rfl) ?_
    refine LW.done ?_
    refine T.region ?_
    refine LW.q rfl (Qt.move rfl) ?_
    refine LW.q rfl (Qt.add rfl rfl (wr64 (by omega) (by omega))) ?_
    refine LW.q rfl (Qt.assign rfl) ?_
    refine LW.done ?_
    refine ⟨_, ?_, _, ⟨_, k + 1, _, ⟨by omega, by rw [DD.readK_succ _ _ _ (by simp only; omega), if_pos (by simp only; omega)]⟩, rfl, (updS rfl (updS rfl (updS rfl (updS rfl rfl)))), rfl⟩, Sub.any⟩
    first | omega | (simp; omega)
   ·
    refine T.skip ?_
    refine T.region ?_
    refine LW.q rfl (Qt.move rfl) ?_
    refine LW.q rfl (Qt.add rfl rfl (wr64 (by omega) (by omega))) ?_
    refine LW.q rfl (Qt.assign rfl) ?_
    refine LW.done ?_
    refine ⟨_, ?_, _, ⟨_, k + 1, _, ⟨by omega, by rw [DD.readK_succ _ _ _ (by simp only; omega), if_neg (by simp only; omega), hx]⟩, rfl, (updS rfl (updS rfl (updS rfl (updS rfl rfl)))), rfl⟩, Sub.any⟩
    first | omega | (simp; omega)
  ·
   have e : k = m := by omega
   subst e
   subst hx
   refine T.exit ?_
   refine T.seq ?_
   refine T.region ?_
   refine LW.q rfl (Qt.move rfl) ?_
   refine LW.q rfl (Qt.assign rfl) ?_
   refine LW.q rfl (Qt.assign rfl) ?_
   refine LW.done ?_
   refine T.ret ?_
   exact ⟨.inl rfl, _, _, res [_, _] rfl ⟨rvT rfl, rvT rfl, trivial⟩, ⟨by rw [DD.read, hpl]; rfl, rfl⟩, Sub.any⟩
end Go.Proofs.YtegohgaccmkigaaGreatDoor

/- The document's disk (annalsref01): the walk of Crash. Conditions: sizes. -/
namespace Go.Proofs.YtegohgaccmkigaaGreatDoor
open Go.RowKit

/-- How many bytes of write number i the document keeps. -/
def rAmt (al : Bool) (keep : List Bool) (tear at_ : Int) (i : Nat) : Nat := if al = true then 256 else if (i : Int) = tear then clampN at_ else if keep.getD i false = true then 256 else 0
theorem rAmt_le (al : Bool) (keep : List Bool) (tear at_ : Int) (i : Nat) : rAmt al keep tear at_ i ≤ 256 := by
  unfold rAmt
  have := clampN_le at_
  split
  · omega
  · split
    · exact this
    · split <;> omega

set_option maxHeartbeats 1000000 in
set_option maxRecDepth 100000 in
theorem Rf.crash (B : Base) (p q : Option Addr) (a b n m : Nat) (al : Bool) (vk : Value) (keep : List Bool) (tear at_ : Int) (secs : List (List UInt8)) (pend : List (Nat × List UInt8)) (hD : DD.Ok ⟨secs, pend⟩) (hp : m < 2 ^ 32) (hk : RoS B vk (boolsV keep)) :
  Fn Tryz.prog B 28 #[.agg #[.slice p n a, .slice q m b], .bool al, vk, .int .i64 tear, .int .i64 at_] [rS (.slice p n a) n secs, rW (.slice q m b) m pend]
   (fun v l => ∃ p' a', v = .agg #[.slice p' n a', .slice none 0 0] ∧ l = [rS (.slice p' n a') n (DD.lays ⟨secs, pend⟩ (fun i => some (rAmt al keep tear at_ i)) m), rW (.slice none 0 0) 0 []]) := by
 obtain ⟨ka, kc, rfl, hkc⟩ := hk
 rw [show (boolsV keep).length = keep.length by simp [boolsV]]
 refine Fn.enter5 74 Tryz.func28 rfl rfl (Nat.le_of_ble_eq_true rfl) (fun F => ?_)
 try simp only [List.cons_append, List.nil_append]
 refine T.own (fun w ho => ?_)
 obtain ⟨-, hg, hsl⟩ := ho.slice_at (p := p) (m := n) (c := a)
 obtain ⟨-, hq, hpl⟩ := ho.slice_at (p := q) (m := m) (c := b)
 replace hsl : secs.length = n := by simpa using hsl
 replace hpl : pend.length = m := by rw [flat_length rpV 2 _ (fun _ _ => rfl)] at hpl; omega
 clear ho hg
 have hn1 : n ≤ 4096 := by rw [← hsl]; exact hD.max
 have hn0 : 0 < n := by rw [← hsl]; exact hD.pos
 refine T.seq ?_
 refine T.region ?_
 refine LW.e rfl (Ef.box [_, _] rfl rfl ?_)
 intro g5
 refine LW.e rfl (Ef.alloc [.slice none 0 0, .slice none 0 0] (by unfold zeroB; kernel_rfl) ?_)
 intro g10
 refine LW.done ?_
 refine T.seq ?_
 refine T.region ?_
 first | refine LW.q rfl (Qt.loadAgg [_, _] (by kernel_rfl) rfl ⟨rfl, rfl, trivial⟩) ?_ | refine LW.q rfl (Qt.loadAgg [_, _] (by kernel_rfl) rfl (by exact rdl_flat _ _ _ (by intros; rfl) _ (by omega))) ?_
 refine LW.e rfl (Ef.call (Rf.copy B p q a b n m secs pend hn1 hp) Tryz.func51 rfl rfl rfl ?_)
 rintro _ _ ⟨p1, a1, q1, b1, rfl, rfl⟩
 try simp only [List.cons_append, List.nil_append]
 refine LW.e rfl (Ef.alloc [.slice none 0 0, .slice none 0 0] (by unfold zeroB; kernel_rfl) ?_)
 intro g11
 refine LW.e0 rfl (Ef.store [_, _] (by kernel_rfl) rfl rfl rfl rfl (by simp) ?_)
 try simp only [splice, List.length_cons, List.length_nil, List.drop_succ_cons, List.cons_append, List.take_succ_cons, List.take_zero, List.drop_zero, List.nil_append, List.append_nil]
 refine LW.done ?_
 refine T.seq ?_
 refine T.region ?_
 refine LW.q rfl (Qt.fieldAddr (off := 1) (by kernel_rfl) rfl) ?_
 refine LW.e0 rfl (Ef.store1 (by kernel_rfl) rfl rfl rfl (by first | (simp; done) | (simp; omega)) ?_)
 try simp only [List.set_cons_zero, List.set_cons_succ]
 refine LW.done ?_
 refine T.seq ?_
 refine T.seq ?_
 refine T.region ?_
 refine LW.q rfl (Qt.assign rfl) ?_
 refine LW.done ?_
 refine T.block ?_
 refine T.own (fun w ho => ?_)
 obtain ⟨-, hg1, -⟩ := ho.slice_at (p := p1) (m := n) (c := a1)
 obtain ⟨gs, rfl⟩ := hg1 hn0
 clear ho hg1
 refine T.loop (fun mz fz lz => ∃ (f0 : Fr) (k : Nat) (S : List (List UInt8)), (k ≤ m ∧ S = DD.lays ⟨secs, pend⟩ (fun i => some (rAmt al keep tear at_ i)) k) ∧ mz = m - k ∧ fz = (upd (upd (upd (upd (upd (upd (upd (upd f0 1 (.bool al)) 2 (.slice ka keep.length kc)) 3 (.int .i64 tear)) 4 (.int .i64 at_)) 5 (.pointer (some ⟨g5, 0, none⟩))) 10 (.pointer (some ⟨g10, 0, none⟩))) 11 (.pointer (some ⟨g11, 0, none⟩))) 12 (.int .i64 k)) ∧ lz = [blk g11 [.slice (some ⟨gs, 0, none⟩) n a1, .slice none 0 0] 30, rS (.slice (some ⟨gs, 0, none⟩) n a1) n S, blk g5 [.slice p n a, .slice q m b] 30, rW (.slice q m b) m pend, blk g10 [.slice none 0 0, .slice none 0 0] 30] ++ F) ?_ ?_
 · refine ⟨_, _, ⟨_, 0, secs, ⟨Nat.zero_le _, rfl⟩, rfl, (updS rfl (updS rfl (updS rfl (updS rfl (updS rfl (updS rfl (updS rfl (updS rfl rfl)))))))), rfl⟩, Sub.any⟩
 ·
  rintro mz fz lz ⟨f0, k, S, ⟨hkm, hS⟩, hmz, rfl, rfl⟩
  subst mz
  try simp only [List.cons_append, List.nil_append]
  refine T.seq ?_
  refine T.seq ?_
  refine T.region ?_
  refine LW.q rfl (Qt.move rfl) ?_
  refine LW.q rfl (Qt.fieldAddr (off := 1) (by kernel_rfl) rfl) ?_
  first | refine LW.q rfl (Qt.load (by kernel_rfl) rfl rfl) ?_ | refine LW.q rfl (Qt.load (by kernel_rfl) rfl (map_at _ _ _ (by omega))) ?_ | refine LW.q rfl (Qt.load (by kernel_rfl) rfl (flat_cell0 _ _ _ (by intros; rfl) _ (by omega) (by rfl))) ?_ | refine LW.q rfl (Qt.load (by kernel_rfl) rfl (flat_cell _ _ _ (by intros; rfl) _ _ (by omega) (by rfl))) ?_ | refine LW.q rfl (Qt.load (by kernel_rfl) rfl (bytes_at _ _ (by omega))) ?_
  refine LW.q rfl (Qt.len (e := 130) (sz := 2) (by kernel_rfl) rfl) ?_
  refine LW.q rfl (Qt.lss rfl rfl) ?_
  refine LW.done ?_
  refine T.condP rfl (fun hlt => ?_) (fun hlt => ?_)
  ·
   obtain ⟨gq, rfl⟩ := hq (by omega)
   obtain ⟨hSl, hSn⟩ := DD.lays_ok hD (fun i => some (rAmt al keep tear at_ i)) (fun i k e => by cases e; exact rAmt_le ..) k
   rw [← hS] at hSl hSn
   simp only [hsl] at hSn
   refine T.skip ?_
   refine T.seq ?_
   refine T.block ?_
   refine T.seq ?_
   refine T.region ?_
   refine LW.q rfl (Qt.fieldAddr (off := 1) (by kernel_rfl) rfl) ?_
   first | refine LW.q rfl (Qt.load (by kernel_rfl) rfl rfl) ?_ | refine LW.q rfl (Qt.load (by kernel_rfl) rfl (map_at _ _ _ (by omega))) ?_ | refine LW.q rfl (Qt.load (by kernel_rfl) rfl (flat_cell0 _ _ _ (by intros; rfl) _ (by omega) (by rfl))) ?_ | refine LW.q rfl (Qt.load (by kernel_rfl) rfl (flat_cell _ _ _ (by intros; rfl) _ _ (by omega) (by rfl))) ?_ | refine LW.q rfl (Qt.load (by kernel_rfl) rfl (bytes_at _ _ (by omega))) ?_
   refine LW.q rfl (Qt.move rfl) ?_
   refine LW.q rfl (Qt.index _ (e := 130) (sz := 2) (by kernel_rfl) rfl rfl rfl (by omega)) ?_
   first | refine LW.q rfl (Qt.loadAgg [_, _] (by kernel_rfl) rfl ⟨rfl, rfl, trivial⟩) ?_ | refine LW.q rfl (Qt.loadAgg [_, _] (by kernel_rfl) rfl (by exact rdl_flat _ _ _ (by intros; rfl) _ (by omega))) ?_
   refine LW.e rfl (Ef.alloc [.int .i64 0, .string .empty] (by unfold zeroB; kernel_rfl) ?_)
   intro g13
   refine LW.e0 rfl (Ef.store [_, _] (by kernel_rfl) rfl rfl rfl rfl (by simp) ?_)
   try simp only [splice, List.length_cons, List.length_nil, List.drop_succ_cons, List.cons_append, List.take_succ_cons, List.take_zero, List.drop_zero, List.nil_append, List.append_nil]
   refine LW.done ?_
   refine T.seq ?_
   refine T.region ?_
   refine LW.q rfl (Qt.assign rfl) ?_
   refine LW.done ?_
   refine T.cut (fun fz lz => ∃ (f0 : Fr) (n1 : Nat), (n1 = if al = true ∨ keep.getD k false = true then 256 else 0) ∧ fz = (upd (upd (upd (upd (upd (upd (upd (upd (upd (upd f0 1 (.bool al)) 2 (.slice ka keep.length kc)) 3 (.int .i64 tear)) 4 (.int .i64 at_)) 5 (.pointer (some ⟨g5, 0, none⟩))) 10 (.pointer (some ⟨g10, 0, none⟩))) 11 (.pointer (some ⟨g11, 0, none⟩))) 12 (.int .i64 k)) 13 (.pointer (some ⟨g13, 0, none⟩))) 14 (.int .i64 n1)) ∧ lz = [blk g13 [.int .i64 pend[k].1, strW pend[k].2] 130, blk g11 [.slice (some ⟨gs, 0, none⟩) n a1, .slice none 0 0] 30, rS (.slice (some ⟨gs, 0, none⟩) n a1) n S, blk g5 [.slice p n a, .slice (some ⟨gq, 0, none⟩) m b] 30, rW (.slice (some ⟨gq, 0, none⟩) m b) m pend, blk g10 [.slice none 0 0, .slice none 0 0] 30] ++ F) ?_ ?_
   ·
    refine T.seq ?_
    refine T.region ?_
    refine LW.q rfl (Qt.move rfl) ?_
    refine LW.q rfl (Qt.move rfl) ?_
    refine LW.split (t := 31) rfl (fun hal => ?_) (fun hal => ?_)
    ·
     try replace hal := of_decide_eq_true hal
     refine LW.s rfl ?_
     refine LW.s rfl ?_
     refine LW.s rfl ?_
     refine LW.s rfl ?_
     refine LW.s rfl ?_
     refine LW.s rfl ?_
     refine LW.s rfl ?_
     refine LW.s rfl ?_
     refine LW.s rfl ?_
     refine LW.s rfl ?_
     refine LW.q rfl (Qt.pick rfl rfl) ?_
     refine LW.done ?_
     first | refine T.condT rfl ?_ | refine T.condPT rfl (by omega) ?_ | refine T.condBT rfl (by omega) ?_
     refine T.region ?_
     refine LW.q rfl (Qt.assign rfl) ?_
     refine LW.done ?_
     exact ⟨_, ⟨_, 256, by simp [hal], (updS rfl (updS rfl (updS rfl (updS rfl (updS rfl (updS rfl (updS rfl (updS rfl (updS rfl (updS rfl rfl)))))))))), rfl⟩, Sub.any⟩
    ·
     try replace hal := of_decide_eq_false hal
     refine LW.q rfl (Qt.move rfl) ?_
     refine LW.q rfl (Qt.move rfl) ?_
     refine LW.q rfl (Qt.len (e := 4) (sz := 1) (by kernel_rfl) rfl) ?_
     refine LW.q rfl (Qt.lss rfl rfl) ?_
     refine LW.q rfl (Qt.move rfl) ?_
     refine LW.split (t := 36) rfl (fun hkl => ?_) (fun hkl => ?_)
     ·
      try replace hkl := of_decide_eq_true hkl
      obtain ⟨kb, ko, C, rfl, hro, hC⟩ : ∃ kb ko C, ka = some ⟨kb, ko, none⟩ ∧ ROc B kb C ∧ ∀ j u, (boolsV keep)[j]? = some u → C[ko + j * 1]? = some u := by rcases hkc with h | h; (have : keep.length = 0 := by simpa [boolsV] using congrArg List.length h); omega; exact h
      refine LW.q rfl (Qt.move rfl) ?_
      refine LW.q rfl (Qt.move rfl) ?_
      refine LW.q rfl (Qt.index _ (e := 4) (sz := 1) (by kernel_rfl) rfl rfl rfl (by omega)) ?_
      refine LW.q rfl (Qt.load (v := .bool (keep[k]'(by omega))) (by kernel_rfl) rfl (hC k _ (by simp [boolsV]))) ?_
      refine LW.q rfl (Qt.pick rfl rfl) ?_
      refine LW.q rfl (Qt.pick rfl rfl) ?_
      refine LW.done ?_
      refine T.cond rfl (fun hkk => ?_) (fun hkk => ?_)
      ·
       refine T.region ?_
       refine LW.q rfl (Qt.assign rfl) ?_
       refine LW.done ?_
       exact ⟨_, ⟨_, 256, by simp [hal, List.getD, List.getElem?_eq_getElem (show k < keep.length by omega), hkk], (updS rfl (updS rfl (updS rfl (updS rfl (updS rfl (updS rfl (updS rfl (updS rfl (updS rfl (updS rfl rfl)))))))))), rfl⟩, Sub.any⟩
      ·
       refine T.skip ?_
       exact ⟨_, ⟨_, 0, by simp [hal, List.getD, List.getElem?_eq_getElem (show k < keep.length by omega), hkk], (updS rfl (updS rfl (updS rfl (updS rfl (updS rfl (updS rfl (updS rfl (updS rfl (updS rfl (updS rfl rfl)))))))))), rfl⟩, Sub.any⟩
     ·
      try replace hkl := of_decide_eq_false hkl
      refine LW.s rfl ?_
      refine LW.s rfl ?_
      refine LW.s rfl ?_
      refine LW.s rfl ?_
      refine LW.q rfl (Qt.pick rfl rfl) ?_
      refine LW.q rfl (Qt.pick rfl rfl) ?_
      refine LW.done ?_
      first | refine T.condF rfl ?_ | refine T.condPF rfl (by omega) ?_ | refine T.condBF rfl (by omega) ?_
      refine T.skip ?_
      exact ⟨_, ⟨_, 0, by simp [hal, List.getD, List.getElem?_eq_none (show keep.length ≤ k by omega)], (updS rfl (updS rfl (updS rfl (updS rfl (updS rfl (updS rfl (updS rfl (updS rfl (updS rfl (updS rfl rfl)))))))))), rfl⟩, Sub.any⟩
   rintro fz lz ⟨f0, n1, hn1, rfl, rfl⟩
   try simp only [List.cons_append, List.nil_append]
   refine T.cut (fun fz lz => ∃ (f0 : Fr) (n2 : Nat), (n2 = rAmt al keep tear at_ k) ∧ fz = (upd (upd (upd (upd (upd (upd (upd (upd (upd (upd f0 1 (.bool al)) 2 (.slice ka keep.length kc)) 3 (.int .i64 tear)) 4 (.int .i64 at_)) 5 (.pointer (some ⟨g5, 0, none⟩))) 10 (.pointer (some ⟨g10, 0, none⟩))) 11 (.pointer (some ⟨g11, 0, none⟩))) 12 (.int .i64 k)) 13 (.pointer (some ⟨g13, 0, none⟩))) 14 (.int .i64 n2)) ∧ lz = [blk g13 [.int .i64 pend[k].1, strW pend[k].2] 130, blk g11 [.slice (some ⟨gs, 0, none⟩) n a1, .slice none 0 0] 30, rS (.slice (some ⟨gs, 0, none⟩) n a1) n S, blk g5 [.slice p n a, .slice (some ⟨gq, 0, none⟩) m b] 30, rW (.slice (some ⟨gq, 0, none⟩) m b) m pend, blk g10 [.slice none 0 0, .slice none 0 0] 30] ++ F) ?_ ?_
   ·
    refine T.seq ?_
    refine T.region ?_
    refine LW.q rfl (Qt.move rfl) ?_
    first | refine LW.q rfl (Qt.notP rfl) ?_ | refine LW.q rfl (Qt.notB rfl) ?_
    refine LW.q rfl (Qt.move rfl) ?_
    refine LW.split (t := 45) rfl (fun hal => ?_) (fun hal => ?_)
    ·
     try replace hal := of_decide_eq_true hal
     refine LW.q rfl (Qt.move rfl) ?_
     refine LW.q rfl (Qt.move rfl) ?_
     refine LW.q rfl (Qt.eql rfl rfl) ?_
     refine LW.q rfl (Qt.pick rfl rfl) ?_
     refine LW.done ?_
     refine T.condP rfl (fun hkt => ?_) (fun hkt => ?_)
     ·
      refine T.seq ?_
      refine T.region ?_
      refine LW.q rfl (Qt.move rfl) ?_
      refine LW.q rfl (Qt.assign rfl) ?_
      refine LW.done ?_
      refine T.seq ?_
      refine T.seq ?_
      refine T.region ?_
      refine LW.q rfl (Qt.move rfl) ?_
      refine LW.q rfl (Qt.lss rfl rfl) ?_
      refine LW.done ?_
      refine T.condP rfl (fun h0 => ?_) (fun h0 => ?_)
      ·
       refine T.region ?_
       refine LW.q rfl (Qt.assign rfl) ?_
       refine LW.done ?_
       refine T.seq ?_
       refine T.region ?_
       refine LW.q rfl (Qt.move rfl) ?_
       refine LW.q rfl (Qt.gtr rfl rfl) ?_
       refine LW.done ?_
       first | refine T.condF rfl ?_ | refine T.condPF rfl (by omega) ?_ | refine T.condBF rfl (by omega) ?_
       refine T.skip ?_
       exact ⟨_, ⟨_, 0, by simp at hal; simp [rAmt, hal, hkt, clampN] <;> omega, (updS rfl (updS rfl (updS rfl (updS rfl (updS rfl (updS rfl (updS rfl (updS rfl (updS rfl (updS rfl rfl)))))))))), rfl⟩, Sub.any⟩
      ·
       refine T.skip ?_
       refine T.seq ?_
       refine T.region ?_
       refine LW.q rfl (Qt.move rfl) ?_
       refine LW.q rfl (Qt.gtr rfl rfl) ?_
       refine LW.done ?_
       refine T.condP rfl (fun h1 => ?_) (fun h1 => ?_)
       ·
        refine T.region ?_
        refine LW.q rfl (Qt.assign rfl) ?_
        refine LW.done ?_
        exact ⟨_, ⟨_, 256, by simp at hal; simp [rAmt, hal, hkt, clampN] <;> omega, (updS rfl (updS rfl (updS rfl (updS rfl (updS rfl (updS rfl (updS rfl (updS rfl (updS rfl (updS rfl rfl)))))))))), rfl⟩, Sub.any⟩
       ·
        obtain ⟨an, rfl⟩ : ∃ an : Nat, at_ = an := ⟨at_.toNat, by omega⟩
        refine T.skip ?_
        exact ⟨_, ⟨_, an, by simp at hal; simp [rAmt, hal, hkt, clampN] <;> omega, (updS rfl (updS rfl (updS rfl (updS rfl (updS rfl (updS rfl (updS rfl (updS rfl (updS rfl (updS rfl rfl)))))))))), rfl⟩, Sub.any⟩
     ·
      refine T.skip ?_
      exact ⟨_, ⟨_, n1, by simp at hal; rw [hn1]; simp [rAmt, hal, hkt], (updS rfl (updS rfl (updS rfl (updS rfl (updS rfl (updS rfl (updS rfl (updS rfl (updS rfl (updS rfl rfl)))))))))), rfl⟩, Sub.any⟩
    ·
     try replace hal := of_decide_eq_false hal
     refine LW.s rfl ?_
     refine LW.s rfl ?_
     refine LW.s rfl ?_
     refine LW.q rfl (Qt.pick rfl rfl) ?_
     refine LW.done ?_
     first | refine T.condF rfl ?_ | refine T.condPF rfl (by omega) ?_ | refine T.condBF rfl (by omega) ?_
     refine T.skip ?_
     exact ⟨_, ⟨_, n1, by simp at hal; rw [hn1]; simp [rAmt, hal], (updS rfl (updS rfl (updS rfl (updS rfl (updS rfl (updS rfl (updS rfl (updS rfl (updS rfl (updS rfl rfl)))))))))), rfl⟩, Sub.any⟩
   rintro fz lz ⟨f0, n2, hn2, rfl, rfl⟩
   try simp only [List.cons_append, List.nil_append]
   have hd1 := hD.data pend[k] (List.getElem_mem _)
   have ha1 := hD.at_ pend[k] (List.getElem_mem _)
   simp only [hsl] at ha1
   have hn2' := rAmt_le al keep tear at_ k
   rw [← hn2] at hn2'
   have hs1 : (S[pend[k].1]'(by omega)).length = 256 := hSl _ (List.getElem_mem _)
   refine T.drawAll 17 (by kernel_rfl) (Nat.le_of_ble_eq_true rfl) (by kernel_rfl) ?_
   refine RW.q 0 rfl rfl (by kernel_rfl) (Sub.refl _) (Qt.fieldAddr0 (by kernel_rfl) rfl) ?_
   first | refine RW.q 1 rfl rfl (by kernel_rfl) (Sub.refl _) (Qt.load (by kernel_rfl) rfl rfl) ?_ | refine RW.q 1 rfl rfl (by kernel_rfl) (Sub.refl _) (Qt.load (by kernel_rfl) rfl (map_at _ _ _ (by omega))) ?_ | refine RW.q 1 rfl rfl (by kernel_rfl) (Sub.refl _) (Qt.load (by kernel_rfl) rfl (flat_cell0 _ _ _ (by intros; rfl) _ (by omega) (by rfl))) ?_ | refine RW.q 1 rfl rfl (by kernel_rfl) (Sub.refl _) (Qt.load (by kernel_rfl) rfl (flat_cell _ _ _ (by intros; rfl) _ _ (by omega) (by rfl))) ?_ | refine RW.q 1 rfl rfl (by kernel_rfl) (Sub.refl _) (Qt.load (by kernel_rfl) rfl (bytes_at _ _ (by omega))) ?_
   refine RW.q 2 rfl rfl (by kernel_rfl) (Sub.refl _) (Qt.fieldAddr0 (by kernel_rfl) rfl) ?_
   first | refine RW.q 3 rfl rfl (by kernel_rfl) (Sub.refl _) (Qt.load (by kernel_rfl) rfl rfl) ?_ | refine RW.q 3 rfl rfl (by kernel_rfl) (Sub.refl _) (Qt.load (by kernel_rfl) rfl (map_at _ _ _ (by omega))) ?_ | refine RW.q 3 rfl rfl (by kernel_rfl) (Sub.refl _) (Qt.load (by kernel_rfl) rfl (flat_cell0 _ _ _ (by intros; rfl) _ (by omega) (by rfl))) ?_ | refine RW.q 3 rfl rfl (by kernel_rfl) (Sub.refl _) (Qt.load (by kernel_rfl) rfl (flat_cell _ _ _ (by intros; rfl) _ _ (by omega) (by rfl))) ?_ | refine RW.q 3 rfl rfl (by kernel_rfl) (Sub.refl _) (Qt.load (by kernel_rfl) rfl (bytes_at _ _ (by omega))) ?_
   refine RW.q 4 rfl rfl (by kernel_rfl) (Sub.refl _) (Qt.fieldAddr (off := 1) (by kernel_rfl) rfl) ?_
   first | refine RW.q 5 rfl rfl (by kernel_rfl) (Sub.refl _) (Qt.load (by kernel_rfl) rfl rfl) ?_ | refine RW.q 5 rfl rfl (by kernel_rfl) (Sub.refl _) (Qt.load (by kernel_rfl) rfl (map_at _ _ _ (by omega))) ?_ | refine RW.q 5 rfl rfl (by kernel_rfl) (Sub.refl _) (Qt.load (by kernel_rfl) rfl (flat_cell0 _ _ _ (by intros; rfl) _ (by omega) (by rfl))) ?_ | refine RW.q 5 rfl rfl (by kernel_rfl) (Sub.refl _) (Qt.load (by kernel_rfl) rfl (flat_cell _ _ _ (by intros; rfl) _ _ (by omega) (by rfl))) ?_ | refine RW.q 5 rfl rfl (by kernel_rfl) (Sub.refl _) (Qt.load (by kernel_rfl) rfl (bytes_at _ _ (by omega))) ?_
   refine RW.q 6 rfl rfl (by kernel_rfl) (Sub.refl _) (Qt.move rfl) ?_
   refine RW.q 7 rfl rfl (by kernel_rfl) (Sub.refl _) (Qt.sliceS_ns _ (by kernel_rfl) rfl rfl rfl (by omega)) ?_
   refine RW.q 8 rfl rfl (by kernel_rfl) (Sub.refl _) (Qt.fieldAddr0 (by kernel_rfl) rfl) ?_
   first | refine RW.q 9 rfl rfl (by kernel_rfl) (Sub.refl _) (Qt.load (by kernel_rfl) rfl rfl) ?_ | refine RW.q 9 rfl rfl (by kernel_rfl) (Sub.refl _) (Qt.load (by kernel_rfl) rfl (map_at _ _ _ (by omega))) ?_ | refine RW.q 9 rfl rfl (by kernel_rfl) (Sub.refl _) (Qt.load (by kernel_rfl) rfl (flat_cell0 _ _ _ (by intros; rfl) _ (by omega) (by rfl))) ?_ | refine RW.q 9 rfl rfl (by kernel_rfl) (Sub.refl _) (Qt.load (by kernel_rfl) rfl (flat_cell _ _ _ (by intros; rfl) _ _ (by omega) (by rfl))) ?_ | refine RW.q 9 rfl rfl (by kernel_rfl) (Sub.refl _) (Qt.load (by kernel_rfl) rfl (bytes_at _ _ (by omega))) ?_
   refine RW.q 10 rfl rfl (by kernel_rfl) (Sub.refl _) (Qt.fieldAddr0 (by kernel_rfl) rfl) ?_
   first | refine RW.q 11 rfl rfl (by kernel_rfl) (Sub.refl _) (Qt.load (by kernel_rfl) rfl rfl) ?_ | refine RW.q 11 rfl rfl (by kernel_rfl) (Sub.refl _) (Qt.load (by kernel_rfl) rfl (map_at _ _ _ (by omega))) ?_ | refine RW.q 11 rfl rfl (by kernel_rfl) (Sub.refl _) (Qt.load (by kernel_rfl) rfl (flat_cell0 _ _ _ (by intros; rfl) _ (by omega) (by rfl))) ?_ | refine RW.q 11 rfl rfl (by kernel_rfl) (Sub.refl _) (Qt.load (by kernel_rfl) rfl (flat_cell _ _ _ (by intros; rfl) _ _ (by omega) (by rfl))) ?_ | refine RW.q 11 rfl rfl (by kernel_rfl) (Sub.refl _) (Qt.load (by kernel_rfl) rfl (bytes_at _ _ (by omega))) ?_
   refine RW.q 12 rfl rfl (by kernel_rfl) (Sub.refl _) (Qt.index _ (e := 9) (sz := 1) (by kernel_rfl) rfl rfl rfl (by omega)) ?_
   first | refine RW.q 13 rfl rfl (by kernel_rfl) (Sub.refl _) (Qt.load (by kernel_rfl) rfl rfl) ?_ | refine RW.q 13 rfl rfl (by kernel_rfl) (Sub.refl _) (Qt.load (by kernel_rfl) rfl (map_at _ _ _ (by omega))) ?_ | refine RW.q 13 rfl rfl (by kernel_rfl) (Sub.refl _) (Qt.load (by kernel_rfl) rfl (flat_cell0 _ _ _ (by intros; rfl) _ (by omega) (by rfl))) ?_ | refine RW.q 13 rfl rfl (by kernel_rfl) (Sub.refl _) (Qt.load (by kernel_rfl) rfl (flat_cell _ _ _ (by intros; rfl) _ _ (by omega) (by rfl))) ?_ | refine RW.q 13 rfl rfl (by kernel_rfl) (Sub.refl _) (Qt.load (by kernel_rfl) rfl (bytes_at _ _ (by omega))) ?_
   refine RW.q 14 rfl rfl (by kernel_rfl) (Sub.refl _) (Qt.move rfl) ?_
   refine RW.q 15 rfl rfl (by kernel_rfl) (Sub.refl _) (Qt.sliceS_sn _ (by kernel_rfl) rfl rfl rfl (by omega)) ?_
   refine RW.q 16 rfl rfl (by kernel_rfl) (Sub.refl _) (Qt.addS rfl rfl (by simp only [List.length_take, List.length_drop]; omega)) ?_
   refine RW.done (by rfl) ?_
   simp only [List.drop_succ_cons, List.drop_zero, List.drop_nil]
   refine LW.q rfl (Qt.index _ (e := 9) (sz := 1) (by kernel_rfl) rfl rfl rfl (by omega)) ?_
   refine LW.e0 rfl (Ef.store1 (by kernel_rfl) rfl rfl rfl (by first | (simp; done) | (simp; omega)) ?_)
   try simp only [List.set_cons_zero, List.set_cons_succ]
   rw [set_map strW]
   refine LW.done ?_
   refine T.region ?_
   refine LW.q rfl (Qt.move rfl) ?_
   refine LW.q rfl (Qt.add rfl rfl (wr64 (by omega) (by omega))) ?_
   refine LW.q rfl (Qt.assign rfl) ?_
   refine LW.done ?_
   refine ⟨_, ?_, _, ⟨_, k + 1, S.set pend[k].1 (pend[k].2.take n2 ++ (S[pend[k].1]'(by omega)).drop n2), ⟨by omega, by rw [DD.lays_some ⟨secs, pend⟩ (fun i => some (rAmt al keep tear at_ i)) k n2 (by simp only; omega) (by rw [hn2]), ← hS]; simp [layW, List.getD, List.getElem?_eq_getElem (show pend[k].1 < S.length by omega)]⟩, rfl, (updS rfl (updS rfl (updS rfl (updS rfl (updS rfl (updS rfl (updS rfl (updS rfl rfl)))))))), rfl⟩, Sub.any⟩
   first | omega | (simp; omega)
  ·
   have e : k = m := by omega
   subst e
   subst hS
   refine T.conv (fun w ho => Rf.nilW ho) ?_
   refine T.exit ?_
   refine T.seq ?_
   refine T.region ?_
   first | refine LW.q rfl (Qt.loadAgg [_, _] (by kernel_rfl) rfl ⟨rfl, rfl, trivial⟩) ?_ | refine LW.q rfl (Qt.loadAgg [_, _] (by kernel_rfl) rfl (by exact rdl_flat _ _ _ (by intros; rfl) _ (by omega))) ?_
   refine LW.e0 rfl (Ef.store [_, _] (by kernel_rfl) rfl rfl rfl rfl (by simp) ?_)
   try simp only [splice, List.length_cons, List.length_nil, List.drop_succ_cons, List.cons_append, List.take_succ_cons, List.take_zero, List.drop_zero, List.nil_append, List.append_nil]
   refine LW.done ?_
   refine T.ret ?_
   exact ⟨.inl rfl, _, _, res [_] rfl ⟨rvA [_, _] (by kernel_rfl) rfl ⟨rfl, rfl, trivial⟩, trivial⟩, ⟨_, _, rfl, rfl⟩, Sub.any⟩
end Go.Proofs.YtegohgaccmkigaaGreatDoor

/- The statement DiskPlays: its functions step and looks. Conditions: sizes. -/
namespace Go.Proofs.YtegohgaccmkigaaGreatDoor
open Go.RowKit

theorem lays_all (D : DD) (keep : List Bool) (tear at_ : Int) (k : Nat) : D.lays (fun i => some (rAmt true keep tear at_ i)) k = D.lays (fun _ => some 256) k := by
  have : (fun i => some (rAmt true keep tear at_ i)) = fun _ => some 256 := by funext i; simp [rAmt]
  rw [this]

theorem RoS.form {B : Base} {v : Value} {cs : List Value} {n : Nat} (h : RoS B v cs) (hn : cs.length = n) : ∃ a cap, v = .slice a n cap := by
  obtain ⟨a, cap, rfl, _⟩ := h
  exact ⟨a, cap, by rw [hn]⟩
theorem RoS.str {B : Base} {S : List Assn} {v : Value} {cs : List Value} (h : RoS B v cs) : ∀ w, Own B w S → ∃ fp, Reads w v cs fp := fun _ ho => let ⟨fp, h1, _⟩ := h.reads ho; ⟨fp, h1⟩

end Go.Proofs.YtegohgaccmkigaaGreatDoor

/- More rules: shifts of bytes, '1 << k', parts of strings, array literals. Conditions: of each rule its own. -/
set_option linter.unusedSimpArgs false
set_option linter.unusedVariables false
namespace Go.Proofs.YtegohgaccmkigaaGreatDoor
open Go.RowKit
section
variable {P : Program} {B : Base} {n : Nat} {S l r : List Assn} {f : Fr} {K : Value → List Assn → Prop} {Φ : Post}
variable {d : Option Tmp} {ty : TypeId} {pos : String} {af : Array Edge} {gd : Option (Nat × Bool)}

theorem Qt.shr8 {t t2 : TypeId} {x y : Operand} {a : Nat} {k : IntKind} {i : Int} (j r : Nat) (hx : ev n f x = some (.int .u8 a)) (hy : ev n f y = some (.int k i)) (hi : i = (j : Int)) (hj : j < 8) (hr : a / 2 ^ j = r) : Qt P B n S ⟨d, .binOp .shr t x y t2, ty, pos, af, gd⟩ f (.int .u8 r) := ⟨fun w _ => by
  subst hr
  subst hi
  have e : (a : Int).fdiv (2 ^ j) = ((a / 2 ^ j : Nat) : Int) := by
    rw [Int.fdiv_eq_ediv_of_nonneg _ (by exact_mod_cast Nat.zero_le _)]
    push_cast; rfl
  have h : (Op.shift .shr .u8 (a : Int) k (j : Int)).run P w = .ok (.int .u8 (a / 2 ^ j : Nat)) w := by
    have : Min.min j 8 = j := by omega
    simp [Op.shift, IntKind.bits, this, e]
  simp [execOp, evu_eq hx, evu_eq hy, eqGuard, Go.binOp, h]⟩
theorem Qt.shl1 {t t2 : TypeId} {x y : Operand} {k : IntKind} {i : Int} (j : Nat) (hx : ev n f x = some (.int .u32 1)) (hy : ev n f y = some (.int k i)) (hi : i = (j : Int)) (hj : j < 32) : Qt P B n S ⟨d, .binOp .shl t x y t2, ty, pos, af, gd⟩ f (.int .u32 (2 ^ j : Nat)) := ⟨fun w _ => by
  subst hi
  have e : IntKind.u32.wrap (1 * 2 ^ j) = ((2 ^ j : Nat) : Int) := by
    have : (2 : Nat) ^ j < 4294967296 := Nat.lt_of_lt_of_eq (Nat.pow_lt_pow_right (by omega) hj) (by decide)
    have e2 : (1 : Int) * 2 ^ j = ((2 ^ j : Nat) : Int) := by rw [Int.one_mul]; push_cast; rfl
    rw [e2]
    exact wru32 (Int.natCast_nonneg _) (Int.ofNat_lt.2 this)
  have h : (Op.shift .shl .u32 1 k (j : Int)).run P w = .ok (.int .u32 (2 ^ j : Nat)) w := by
    rw [← e]
    have : Min.min j 32 = j := by omega
    simp [Op.shift, IntKind.bits, this]
  have h2 : Sem.run P (Op.shift BinOp.shl IntKind.u32 1 k ↑j) w = Result.ok (Value.int IntKind.u32 ↑(2 ^ j)) w := h
  simp only [execOp, evu_eq hx, evu_eq hy]
  simp [eqGuard, Go.binOp, h2]
  try simpa using e⟩
theorem Qt.sliceS {t : TypeId} {x y z : Operand} {a : List UInt8} {k k2 : IntKind} {i i2 : Int} (lo hi : Nat) (r : List UInt8) (ht : isStr P t = true) (hx : ev n f x = some (.string (strOf a))) (hy : ev n f y = some (.int k i)) (hz : ev n f z = some (.int k2 i2)) (h1 : i = (lo : Int)) (h2 : i2 = (hi : Int)) (hl : lo ≤ hi) (hh : hi ≤ a.length) (hr : (a.take hi).drop lo = r) :
    Qt P B n S ⟨d, .slice t x (some y) (some z) none, ty, pos, af, gd⟩ f (.string (strOf r)) := ⟨fun w _ => by
  subst hr
  unfold isStr at ht
  split at ht
  · rename_i hu
    subst h1; subst h2
    have hs := strOf_extract a lo hi
    simp [execOp, Instr.sliceAt, run_underlying hu, evu_eq hx, evu_eq hy, evu_eq hz, Instr.slice, Instr.sliceBounds, Instr.sliceBound, asIntOf, size_strOf, hl, hh, hs]
  · cases ht⟩
/-- An array literal of one-cell elements, all of them told. -/
theorem Qt.buildA {t len e : Nat} {parts : Array (Nat × Operand)} (vs : List Value) (ht : arrB P t len e 1 = true) (hz : (P.info? t).bind (fun i => i.zero.map (·.cells.size)) = some len) (hp : parts.toList.map (fun p => (p.1, ev n f p.2)) = (vs.zipIdx 0).map fun x => (x.2, some x.1)) (h1 : ∀ v ∈ vs, v.cells = #[v]) (hl : vs.length = len) : Qt P B n S ⟨d, .build t parts, ty, pos, af, gd⟩ f (.agg vs.toArray) := ⟨fun w _ => by
  unfold arrB at ht
  simp only [Bool.and_eq_true, decide_eq_true_eq] at ht
  obtain ⟨q1, q2⟩ := ht
  split at q1
  · rename_i m e' hu
    simp at q1
    obtain ⟨rfl, rfl⟩ := q1
    obtain ⟨i', hi, hs⟩ := info_of_size q2
    cases hit : P.info? t with
    | none => rw [hit] at hz; cases hz
    | some it =>
      rw [hit] at hz
      simp only [Option.bind_some] at hz
      cases hzz : it.zero with
      | none => rw [hzz] at hz; cases hz
      | some z =>
        rw [hzz] at hz
        simp only [Option.map_some, Option.some.injEq] at hz
        have hpe : (parts.map fun p => (p.1, evu n f p.2)).toList = (vs.zipIdx 0).map fun x => (x.2, x.1) := by
          rw [Array.toList_map]
          have e := congrArg (List.map (fun p : Nat × Option Value => (p.1, p.2.getD undef))) hp
          simp only [List.map_map, Function.comp_def, Option.getD_some] at e
          exact e
        have hfl := Great.fill_flat vs z.cells h1 (by omega)
        show ((do pure (.value (← Instr.build t (parts.map fun p => (p.1, evu n f p.2)))) : Sem Next)).run P w = _
        simp only [Nat.mul_one] at hfl
        simp [Instr.build, zeroValue, sizeOf, typeInfo, hit, hzz, hi, hs, run_underlying hu, hpe, hfl, -Array.toList_map]
  · cases q1⟩
end
end Go.Proofs.YtegohgaccmkigaaGreatDoor

/- The statements' own codec (annalsref02): the sum bit by bit is the program's; bit, Get, Number. Conditions: sizes. -/
set_option linter.unusedSimpArgs false
set_option linter.unusedVariables false
namespace Go.Proofs.YtegohgaccmkigaaGreatDoor
open Go.RowKit

def tb (x : UInt32) (k : Nat) : Bool := x.toNat.testBit k
theorem tb_ext {a b : UInt32} (h : ∀ k, tb a k = tb b k) : a = b := UInt32.toNat_inj.1 (Nat.eq_of_testBit_eq h)
theorem tb_xor (a b : UInt32) (k : Nat) : tb (a ^^^ b) k = (tb a k ^^ tb b k) := by simp [tb, UInt32.toNat_xor, Nat.testBit_xor]
theorem tb_shr (a : UInt32) (k : Nat) : tb (a >>> 1) k = tb a (k + 1) := by
  unfold tb
  rw [UInt32.toNat_shiftRight, Nat.testBit_shiftRight]
  rw [show (1 : UInt32).toNat % 32 = 1 from rfl, Nat.add_comm]
theorem tb_low (a : UInt32) : (a &&& 1 = 1) ↔ tb a 0 = true := by
  unfold tb
  rw [← UInt32.toNat_inj, UInt32.toNat_and, Nat.testBit_zero, show (1 : UInt32).toNat = 1 from rfl, Nat.and_one_is_mod]
  simp
def crcP : UInt32 := 3988292384
theorem tb_crcBit (t : UInt32) (k : Nat) : tb (crcBit t) k = (tb t (k + 1) ^^ (tb t 0 && tb crcP k)) := by
  unfold crcBit
  by_cases h : t &&& 1 = 1
  · rw [if_pos h, tb_xor, tb_shr, (tb_low t).1 h, Bool.true_and]; rfl
  · rw [if_neg h, tb_shr]
    have : tb t 0 = false := by
      cases e : tb t 0 with
      | false => rfl
      | true => exact absurd ((tb_low t).2 e) h
    rw [this]; simp
def stepB (s : UInt32) (b : Bool) : UInt32 := crcBit (if b then s ^^^ 1 else s)
theorem tb_one (k : Nat) : tb 1 k = decide (k = 0) := by
  unfold tb
  rw [show (1 : UInt32).toNat = 1 from rfl]
  cases k with
  | zero => rfl
  | succ k => simp [Nat.testBit_succ]
theorem tb_stepB (s : UInt32) (b : Bool) (k : Nat) : tb (stepB s b) k = (tb s (k + 1) ^^ ((tb s 0 ^^ b) && tb crcP k)) := by
  unfold stepB
  rw [tb_crcBit]
  cases b with
  | false => simp
  | true => simp [tb_xor, tb_one]
theorem crcBits_comm (k : Nat) (s : UInt32) : crcBits (k + 1) s = crcBits k (crcBit s) := by
  induction k with
  | zero => rfl
  | succ k ih => rw [crcBits, ih]; rfl
theorem tb_ofNat {x : Nat} (h : x < 2 ^ 32) (k : Nat) : tb (UInt32.ofNat x) k = x.testBit k := by
  unfold tb; rw [UInt32.toNat_ofNat', Nat.mod_eq_of_lt h]
/-- k bits of x, the lowest first. -/
def bitsB : Nat → Nat → UInt32 → UInt32
  | 0, _, s => s
  | k + 1, x, s => bitsB k (x / 2) (stepB s (x.testBit 0))
theorem crcBits_bitsB : ∀ (k x : Nat) (s : UInt32), x < 2 ^ k → k ≤ 32 → crcBits k (s ^^^ UInt32.ofNat x) = bitsB k x s
  | 0, x, s, h, _ => by
    obtain rfl : x = 0 := by simpa using h
    rw [crcBits, bitsB]; exact UInt32.xor_zero
  | k + 1, x, s, h, hk => by
    have hx : x < 2 ^ 32 := Nat.lt_of_lt_of_le h (Nat.pow_le_pow_right (by omega) hk)
    have hx2 : x / 2 < 2 ^ k := by rw [Nat.pow_succ] at h; omega
    have e : crcBit (s ^^^ UInt32.ofNat x) = stepB s (x.testBit 0) ^^^ UInt32.ofNat (x / 2) := tb_ext fun j => by
      rw [tb_crcBit, tb_xor, tb_xor, tb_xor, tb_stepB, tb_ofNat hx, tb_ofNat hx, tb_ofNat (by omega), Nat.testBit_succ]
      cases tb s (j + 1) <;> cases (x / 2).testBit j <;> cases tb s 0 <;> cases x.testBit 0 <;> cases tb crcP j <;> rfl
    rw [crcBits_comm, e, crcBits_bitsB k (x / 2) _ hx2 (by omega), bitsB]
def bitsF (j x : Nat) (s : UInt32) : UInt32 := (List.range j).foldl (fun s t => stepB s (x.testBit t)) s
theorem bitsF_succ (j x : Nat) (s : UInt32) : bitsF (j + 1) x s = stepB (bitsF j x s) (x.testBit j) := by simp [bitsF, List.range_succ]
theorem bitsF_front : ∀ (j x : Nat) (s : UInt32), bitsF (j + 1) x s = bitsF j (x / 2) (stepB s (x.testBit 0))
  | 0, x, s => by simp [bitsF, List.range_succ]
  | j + 1, x, s => by rw [bitsF_succ, bitsF_front j x s, bitsF_succ, Nat.testBit_succ]
theorem bitsB_F : ∀ (k x : Nat) (s : UInt32), bitsB k x s = bitsF k x s
  | 0, _, _ => rfl
  | k + 1, x, s => by rw [bitsB, bitsB_F, bitsF_front]
theorem crcByte_bits (s : UInt32) (x : UInt8) : crcByte s x = bitsF 8 x.toNat s := by
  unfold crcByte
  rw [show x.toUInt32 = UInt32.ofNat x.toNat by apply UInt32.toNat_inj.1; simp, crcBits_bitsB 8 _ _ x.toNat_lt (by omega), bitsB_F]
/-- The register behind i bits of the text. -/
def regI (a : List UInt8) (i : Nat) : UInt32 := bitsF (i % 8) (a.getD (i / 8) 0).toNat (crcS (a.take (i / 8)))
theorem regI_zero (a : List UInt8) : regI a 0 = 4294967295 := rfl
theorem regI_succ (a : List UInt8) (i : Nat) (h : i / 8 < a.length) : regI a (i + 1) = stepB (regI a i) ((a.getD (i / 8) 0).toNat.testBit (i % 8)) := by
  unfold regI
  rw [← bitsF_succ]
  by_cases h7 : i % 8 = 7
  · have e1 : (i + 1) / 8 = i / 8 + 1 := by omega
    have e2 : (i + 1) % 8 = 0 := by omega
    rw [e1, e2, h7, List.take_succ_eq_append_getElem h, crcS_snoc, crcByte_bits]
    simp [bitsF, List.getD, h]
  · have e1 : (i + 1) / 8 = i / 8 := by omega
    have e2 : (i + 1) % 8 = i % 8 + 1 := by omega
    rw [e1, e2]
theorem regI_all (a : List UInt8) : regI a (8 * a.length) = crcS a := by
  unfold regI
  rw [show 8 * a.length % 8 = 0 by omega, show 8 * a.length / 8 = a.length by omega, List.take_length]
  rfl
/-- Bit k of a register as a number. -/
def bitN (s : UInt32) (k : Nat) : Nat := (tb s k).toNat
theorem bitN_le (s : UInt32) (k : Nat) : bitN s k ≤ 1 := by unfold bitN; cases tb s k <;> simp
theorem bitN_step (s : UInt32) (b k : Nat) (hb : b ≤ 1) (B : Bool) (hB : B = decide (b = 1)) : bitN (stepB s B) k = (bitN s (k + 1) + ((bitN s 0 + b) % 2) * bitN crcP k) % 2 := by
  subst hB
  unfold bitN
  rw [tb_stepB]
  have : b = 0 ∨ b = 1 := by omega
  rcases this with rfl | rfl <;> cases tb s (k + 1) <;> cases tb s 0 <;> cases tb crcP k <;> rfl
theorem bitN_top (s : UInt32) : bitN s 32 = 0 := by
  unfold bitN tb
  rw [Nat.testBit_lt_two_pow (by have := s.toNat_lt; omega)]
  rfl
theorem not_low (s : UInt32) (k : Nat) (hk : k < 32) : (~~~ s).toNat % 2 ^ (k + 1) = (~~~ s).toNat % 2 ^ k + (if bitN s k = 0 then 2 ^ k else 0) := by
  rw [Nat.mod_pow_succ]
  have h1 : (~~~ s).toNat / 2 ^ k % 2 = ((~~~ s).toNat.testBit k).toNat := (Nat.toNat_testBit _ _).symm
  have h2 : (~~~ s).toNat.testBit k = ! tb s k := by
    rw [UInt32.toNat_not]
    have : UInt32.size - 1 - s.toNat = 2 ^ 32 - (s.toNat + 1) := by have : UInt32.size = 2 ^ 32 := rfl; omega
    rw [this, Nat.testBit_two_pow_sub_succ s.toNat_lt]
    simp [hk, tb]
  rw [h1, h2]
  unfold bitN
  cases tb s k <;> simp

theorem quo8 (j : Nat) (h : j < 2 ^ 40) : IntKind.i64.wrap ((j : Int).tdiv 8) = ((j / 8 : Nat) : Int) := by
  have : (j : Int).tdiv 8 = ((j / 8 : Nat) : Int) := rfl
  rw [this]; exact wr64 (by omega) (by omega)
theorem quo256 (m : Nat) (h : m < 2 ^ 64) : IntKind.u64.wrap ((m : Int).tdiv 256) = ((m / 256 : Nat) : Int) := by
  have : (m : Int).tdiv 256 = ((m / 256 : Nat) : Int) := rfl
  rw [this]; exact wru64 (by omega) (by omega)
theorem rem_nat (j m : Nat) : (j : Int).tmod (m : Int) = ((j % m : Nat) : Int) := rfl

set_option maxHeartbeats 1000000 in
set_option maxRecDepth 100000 in
theorem Rc.bit (B : Base) (a : List UInt8) (i : Int) (j : Nat) (hi : i = j) (hj : j / 8 < a.length) (hl : a.length < 2 ^ 36) : Fn Tryz.prog B 81 #[.string (strOf a), .int .i64 i] [] (fun v l => v = .int .i64 ((a.getD (j / 8) 0).toNat.testBit (j % 8)).toNat ∧ l = []) := by
  subst hi
  have hg : a.getD (j / 8) 0 = a[j / 8] := by simp [List.getD, hj]
  have hx := (a[j / 8]).toNat_lt
  have hb : ((a.getD (j / 8) 0).toNat.testBit (j % 8)).toNat = a[j / 8].toNat / 2 ^ (j % 8) % 2 := by rw [hg, Nat.toNat_testBit]
  have hq : a[j / 8].toNat / 2 ^ (j % 8) < 256 := Nat.lt_of_le_of_lt (Nat.div_le_self _ _) hx
  obtain ⟨q, hqq⟩ : ∃ q, a[j / 8].toNat / 2 ^ (j % 8) = q := ⟨_, rfl⟩
  rw [hqq] at hq hb
  refine Fn.enter2 14 Tryz.func81 rfl rfl (Nat.le_of_ble_eq_true rfl) (fun F => ?_)
  try simp only [List.cons_append, List.nil_append]
  refine T.seq ?_
  refine T.region ?_
  refine LW.q rfl (Qt.assign rfl) ?_
  refine LW.done ?_
  refine T.seq ?_
  refine T.region ?_
  refine LW.q rfl (Qt.move rfl) ?_
  refine LW.q rfl (Qt.move rfl) ?_
  refine LW.q rfl (Qt.quo rfl rfl (by omega) (quo8 j (by omega))) ?_
  refine LW.q rfl (Qt.indexS (j / 8) (by kernel_rfl) rfl rfl rfl hj) ?_
  refine LW.q rfl (Qt.move rfl) ?_
  refine LW.q rfl (Qt.rem rfl rfl (by omega) (rem_nat j 8)) ?_
  refine LW.q rfl (Qt.shr8 (j % 8) q rfl rfl rfl (by omega) hqq) ?_
  refine LW.q rfl (Qt.convI (by kernel_rfl) (by kernel_rfl) rfl (wr64 (by omega) (by omega))) ?_
  refine LW.q rfl (Qt.rem rfl rfl (by omega) (rem_nat _ 2)) ?_
  refine LW.q rfl (Qt.assign rfl) ?_
  refine LW.done ?_
  refine T.ret ?_
  exact ⟨.inl rfl, _, _, res [_] rfl ⟨rvT rfl, trivial⟩, ⟨by rw [hb]; rfl, rfl⟩, Sub.any⟩

set_option maxHeartbeats 1000000 in
set_option maxRecDepth 100000 in
theorem Rc.get (B : Base) (a : List UInt8) (ha : a.length ≤ 8) : Fn Tryz.prog B 24 #[.string (strOf a)] [] (fun v l => v = .int .u64 (get64 a).toNat ∧ l = []) := by
 refine Fn.enter1 19 Tryz.func24 rfl rfl (Nat.le_of_ble_eq_true rfl) (fun F => ?_)
 try simp only [List.cons_append, List.nil_append]
 refine T.seq ?_
 refine T.region ?_
 refine LW.q rfl (Qt.assign rfl) ?_
 refine LW.done ?_
 refine T.seq ?_
 refine T.region ?_
 refine LW.q rfl (Qt.assign rfl) ?_
 refine LW.done ?_
 refine T.seq ?_
 refine T.seq ?_
 refine T.region ?_
 refine LW.q rfl (Qt.assign rfl) ?_
 refine LW.done ?_
 refine T.block ?_
 refine T.loop (fun mz fz lz => ∃ (f0 : Fr) (k m : Nat), (k ≤ a.length ∧ m = natOf (a.take k)) ∧ mz = a.length - k ∧ fz = (upd (upd (upd f0 0 (.string (strOf a))) 3 (.int .u64 m)) 4 (.int .i64 k)) ∧ lz = F) ?_ ?_
 · refine ⟨_, _, ⟨_, 0, 0, ⟨Nat.zero_le _, rfl⟩, rfl, (updS rfl (updS rfl (updS rfl rfl))), rfl⟩, Sub.any⟩
 ·
  rintro mz fz lz ⟨f0, k, m, ⟨hk, hm⟩, hmz, rfl, rfl⟩
  subst mz
  try simp only [List.cons_append, List.nil_append]
  refine T.seq ?_
  refine T.seq ?_
  refine T.region ?_
  refine LW.q rfl (Qt.move rfl) ?_
  refine LW.q rfl (Qt.move rfl) ?_
  first | refine LW.q rfl (Qt.lenSt (by kernel_rfl) rfl) ?_ | refine LW.q rfl (Qt.lenS (by kernel_rfl) rfl) ?_
  refine LW.q rfl (Qt.lss rfl rfl) ?_
  refine LW.done ?_
  refine T.condP rfl (fun hlt => ?_) (fun hlt => ?_)
  ·
   have hx := (a[k]'(by omega)).toNat_lt
   have hb : m < 256 ^ 7 := by rw [hm]; exact Nat.lt_of_lt_of_le (natOf_lt _) (Nat.pow_le_pow_right (by omega) (by simp; omega))
   refine T.skip ?_
   refine T.seq ?_
   refine T.block ?_
   refine T.region ?_
   refine LW.q rfl (Qt.move rfl) ?_
   refine LW.q rfl (Qt.mul rfl rfl (wru64 (by omega) (by omega))) ?_
   refine LW.q rfl (Qt.move rfl) ?_
   refine LW.q rfl (Qt.move rfl) ?_
   refine LW.q rfl (Qt.indexS k (by kernel_rfl) rfl rfl rfl (by omega)) ?_
   refine LW.q rfl (Qt.convI (by kernel_rfl) (by kernel_rfl) rfl (wru64 (by omega) (by omega))) ?_
   refine LW.q rfl (Qt.add rfl rfl (wru64 (by omega) (by omega))) ?_
   refine LW.q rfl (Qt.assign rfl) ?_
   refine LW.done ?_
   refine T.region ?_
   refine LW.q rfl (Qt.move rfl) ?_
   refine LW.q rfl (Qt.add rfl rfl (wr64 (by omega) (by omega))) ?_
   refine LW.q rfl (Qt.assign rfl) ?_
   refine LW.done ?_
   refine ⟨_, ?_, _, ⟨_, k + 1, m * 256 + (a[k]'(by omega)).toNat, ⟨by omega, by rw [List.take_succ_eq_append_getElem (by omega), natOf_snoc, hm]⟩, rfl, (updS rfl (updS rfl (updS rfl rfl))), rfl⟩, Sub.any⟩
   first | omega | (simp; omega)
  ·
   have e : k = a.length := by omega
   rw [e, List.take_length] at hm
   refine T.exit ?_
   refine T.seq ?_
   refine T.region ?_
   refine LW.q rfl (Qt.move rfl) ?_
   refine LW.q rfl (Qt.assign rfl) ?_
   refine LW.done ?_
   refine T.ret ?_
   exact ⟨.inl rfl, _, _, res [_] rfl ⟨rvT rfl, trivial⟩, ⟨by rw [hm, get64_nat a ha]; rfl, rfl⟩, Sub.any⟩

set_option maxHeartbeats 1000000 in
set_option maxRecDepth 100000 in
theorem Rc.number (B : Base) (N : UInt64) (i : Int) (k : Nat) (hi : i = k) (hk : k ≤ 8) : Fn Tryz.prog B 50 #[.int .u64 N.toNat, .int .i64 i] [] (fun v l => v = .string (strOf (be N k)) ∧ l = []) := by
 subst hi
 have hN := N.toNat_lt
 refine Fn.enter2 26 Tryz.func50 rfl rfl (Nat.le_of_ble_eq_true rfl) (fun F => ?_)
 try simp only [List.cons_append, List.nil_append]
 refine T.seq ?_
 refine T.region ?_
 refine LW.q rfl (Qt.assign rfl) ?_
 refine LW.done ?_
 refine T.seq ?_
 refine T.region ?_
 refine LW.q rfl (Qt.assign rfl) ?_
 refine LW.done ?_
 refine T.seq ?_
 refine T.seq ?_
 refine T.region ?_
 refine LW.q rfl (Qt.assign rfl) ?_
 refine LW.done ?_
 refine T.block ?_
 refine T.loop (fun mz fz lz => ∃ (f0 : Fr) (j m : Nat) (acc : List UInt8), (j ≤ k ∧ m = N.toNat / 2 ^ (8 * j) ∧ acc = be N j) ∧ mz = k - j ∧ fz = (upd (upd (upd (upd f0 0 (.int .u64 m)) 1 (.int .i64 k)) 5 (.string (strOf acc))) 6 (.int .i64 j)) ∧ lz = F) ?_ ?_
 · refine ⟨_, _, ⟨_, 0, N.toNat, [], ⟨Nat.zero_le _, by simp, rfl⟩, rfl, (updS rfl (updS rfl (updS rfl (updS rfl rfl)))), rfl⟩, Sub.any⟩
 ·
  rintro mz fz lz ⟨f0, j, m, acc, ⟨hj, hm, hacc⟩, hmz, rfl, rfl⟩
  subst mz
  try simp only [List.cons_append, List.nil_append]
  have hml : m < 2 ^ 64 := by rw [hm]; exact Nat.lt_of_le_of_lt (Nat.div_le_self _ _) hN
  have hal : acc.length = j := by rw [hacc, length_be]
  refine T.seq ?_
  refine T.seq ?_
  refine T.region ?_
  refine LW.q rfl (Qt.move rfl) ?_
  refine LW.q rfl (Qt.move rfl) ?_
  refine LW.q rfl (Qt.lss rfl rfl) ?_
  refine LW.q rfl (Qt.move rfl) ?_
  refine LW.split (t := 10) rfl (fun hlt => ?_) (fun hlt => ?_)
  ·
   try replace hlt := of_decide_eq_true hlt
   refine LW.q rfl (Qt.move rfl) ?_
   refine LW.q rfl (Qt.lss rfl rfl) ?_
   refine LW.q rfl (Qt.pick rfl rfl) ?_
   refine LW.done ?_
   first | refine T.condT rfl ?_ | refine T.condPT rfl (by omega) ?_ | refine T.condBT rfl (by omega) ?_
   have hmm : m % 256 = (UInt8.ofNat m).toNat := by simp
   refine T.skip ?_
   refine T.seq ?_
   refine T.block ?_
   refine T.seq ?_
   refine T.region ?_
   refine LW.q rfl (Qt.move rfl) ?_
   refine LW.q rfl (Qt.rem rfl rfl (by omega) (rem_nat m 256)) ?_
   refine LW.q rfl (Qt.convI (by kernel_rfl) (by kernel_rfl) rfl (wr8 (by omega) (by omega))) ?_
   refine LW.e rfl (Ef.one [_] (e := 5) (sz := 1) (by kernel_rfl) ⟨.int .u8 0, by kernel_rfl, rfl⟩ rfl rfl rfl (by omega) (by omega) ?_)
   intro g19
   rw [hmm]
   refine LW.q rfl (Qt.str [UInt8.ofNat m] (by kernel_rfl) (by kernel_rfl) rfl (fun w ho => (rdv_blk (g := g19) (n := 1) (c := 1) rfl rfl).reads w ho)) ?_
   refine LW.q rfl (Qt.move rfl) ?_
   refine LW.q rfl (Qt.addS rfl rfl (by simp [hal]; omega)) ?_
   refine LW.q rfl (Qt.assign rfl) ?_
   refine LW.done ?_
   refine T.region ?_
   refine LW.q rfl (Qt.move rfl) ?_
   refine LW.q rfl (Qt.quo rfl rfl (by omega) (quo256 m hml)) ?_
   refine LW.q rfl (Qt.assign rfl) ?_
   refine LW.done ?_
   refine T.region ?_
   refine LW.q rfl (Qt.move rfl) ?_
   refine LW.q rfl (Qt.add rfl rfl (wr64 (by omega) (by omega))) ?_
   refine LW.q rfl (Qt.assign rfl) ?_
   refine LW.done ?_
   refine ⟨_, ?_, _, ⟨_, j + 1, m / 256, UInt8.ofNat m :: acc, ⟨by omega, by rw [hm, Nat.div_div_eq_div_mul, show 2 ^ (8 * (j + 1)) = 2 ^ (8 * j) * 256 by rw [Nat.mul_add, Nat.pow_add]], by rw [hacc, hm]; rfl⟩, rfl, (updS rfl (updS rfl (updS rfl (updS rfl rfl)))), rfl⟩, Sub.any⟩
   first | omega | (simp; omega)
  ·
   try replace hlt := of_decide_eq_false hlt
   refine LW.s rfl ?_
   refine LW.s rfl ?_
   refine LW.q rfl (Qt.pick rfl rfl) ?_
   refine LW.done ?_
   first | refine T.condF rfl ?_ | refine T.condPF rfl (by omega) ?_ | refine T.condBF rfl (by omega) ?_
   obtain rfl : j = k := by omega
   refine T.exit ?_
   refine T.seq ?_
   refine T.region ?_
   refine LW.q rfl (Qt.move rfl) ?_
   refine LW.q rfl (Qt.assign rfl) ?_
   refine LW.done ?_
   refine T.ret ?_
   exact ⟨.inl rfl, _, _, res [_] rfl ⟨rvT rfl, trivial⟩, ⟨by rw [hacc]; rfl, rfl⟩, Sub.any⟩
end Go.Proofs.YtegohgaccmkigaaGreatDoor

/- The statements' own Sum is the program's. Conditions: sizes. -/
set_option linter.unusedSimpArgs false
set_option linter.unusedVariables false
namespace Go.Proofs.YtegohgaccmkigaaGreatDoor
open Go.RowKit

abbrev iV (n : Nat) : Value := .int .i64 n
def restV (s : UInt32) : List Value := (List.range 32).map fun k => iV (bitN s k)
abbrev intR (g : Nat) (L : List Value) : Assn := row (.slice (some ⟨g, 0, none⟩) 32 32) 3 1 32 L
theorem rest_at (s : UInt32) (k : Nat) (h : k < 32) : (restV s)[0 + k * 1]? = some (iV (bitN s k)) := by simp [restV, h]
theorem restV_of {L : List Value} {s : UInt32} (hl : L.length = 32) (h : ∀ j, j < 32 → L[j]? = some (iV (bitN s j))) : L = restV s := by
  refine List.ext_getElem? fun j => ?_
  by_cases hj : j < 32
  · rw [h j hj]; simp [restV, hj]
  · rw [List.getElem?_eq_none (by omega), List.getElem?_eq_none (by simp [restV]; omega)]
theorem bitN_ones : ∀ j, j < 32 → bitN 4294967295 j = 1 := by decide +kernel
abbrev powV : List Value := [iV 0, iV 0, iV 0, iV 0, iV 0, iV 1, iV 0, iV 0, iV 1, iV 1, iV 0, iV 0, iV 0, iV 0, iV 0, iV 1, iV 0, iV 0, iV 0, iV 1, iV 1, iV 1, iV 0, iV 1, iV 1, iV 0, iV 1, iV 1, iV 0, iV 1, iV 1, iV 1]
theorem pow_at (k : Nat) (h : k < 32) : powV[0 + k * 1]? = some (iV (bitN crcP k)) := by
  have e : powV = (List.range 32).map fun k => iV (bitN crcP k) := by kernel_rfl
  rw [e]; simp [h]
theorem Cd.elemI : ElemOk Tryz.prog 61 3 1 8 := .mk' (.int .i64 0) Tryz.underlying61 (by kernel_rfl) rfl (by omega)
theorem made_ints (n : Nat) : (madeCells (Value.int .i64 0).cells (n * 1)).toList = List.replicate n (iV 0) := by
  rw [show (Value.int .i64 0).cells = (List.replicate 1 (Value.int .i64 0)).toArray from rfl, made_replicate _ 1 _ (by omega), Nat.mul_one]
  rfl
theorem rem_add (x y : Nat) : ((x : Int) + (y : Int)).tmod 2 = (((x + y) % 2 : Nat) : Int) := rfl
theorem mul_bits {x y : Nat} (hx : x ≤ 1) (hy : y ≤ 1) : IntKind.i64.wrap ((x : Int) * (y : Int)) = ((x * y : Nat) : Int) := by
  have : x * y ≤ 1 := Nat.mul_le_mul hx hy
  rw [← Int.natCast_mul]; exact wr64 (by omega) (by omega)
theorem set_pre {L : List Value} {k : Nat} {u : Value} {P : Nat → Value} (hl : L.length = 32) (hk : k < 32) (h : ∀ j, j < k → L[j]? = some (P j)) (hu : u = P k) : ∀ j, j < k + 1 → (L.set (0 + k * 1) u)[j]? = some (P j) := by
  intro j hj
  rw [Nat.zero_add, Nat.mul_one]
  rcases Nat.lt_or_ge j k with h1 | h1
  · rw [List.getElem?_set_ne (by omega)]; exact h j h1
  · obtain rfl : j = k := by omega
    rw [List.getElem?_set_self (by omega), hu]

set_option maxHeartbeats 4000000 in
set_option maxRecDepth 100000 in
theorem Rc.sum (B : Base) (a : List UInt8) (hl : a.length < 2 ^ 32) : Fn Tryz.prog B 68 #[.string (strOf a)] [] (fun v l => v = .int .u32 (crc a).toNat ∧ l = []) := by
 refine Fn.enter1 77 Tryz.func68 rfl rfl (Nat.le_of_ble_eq_true rfl) (fun F => ?_)
 try simp only [List.cons_append, List.nil_append]
 refine T.seq ?_
 refine T.region ?_
 refine LW.q rfl (Qt.assign rfl) ?_
 refine LW.done ?_
 refine T.seq ?_
 refine T.region ?_
 refine LW.q rfl (Qt.move rfl) ?_
 first | refine LW.q rfl (Qt.lenSt (by kernel_rfl) rfl) ?_ | refine LW.q rfl (Qt.lenS (by kernel_rfl) rfl) ?_
 refine LW.q rfl (Qt.mul rfl rfl (wr64 (by omega) (by omega))) ?_
 refine LW.q rfl (Qt.assign rfl) ?_
 refine LW.done ?_
 refine T.seq ?_
 refine T.region ?_
 refine LW.e rfl (Ef.make 32 (.int .i64 0) 8 Cd.elemI (by kernel_rfl) rfl rfl rfl rfl (by omega) (by unfold maxLen; omega) ?_)
 rintro g17
 try simp only [List.cons_append, List.nil_append]
 rw [made_ints]
 refine LW.q rfl (Qt.assign rfl) ?_
 refine LW.done ?_
 refine T.seq ?_
 refine T.seq ?_
 refine T.region ?_
 refine LW.q rfl (Qt.assign rfl) ?_
 refine LW.done ?_
 refine T.block ?_
 refine T.loop (fun mz fz lz => ∃ (f0 : Fr) (i : Nat) (L : List Value), (i ≤ 32 ∧ L.length = 32 ∧ ∀ j, j < i → L[j]? = some ((fun _ => iV 1) j)) ∧ mz = 32 - i ∧ fz = (upd (upd (upd (upd f0 0 (.string (strOf a))) 3 (.int .i64 ((a.length : Int) * 8))) 4 (.slice (some ⟨g17, 0, none⟩) 32 32)) 5 (.int .i64 i)) ∧ lz = intR g17 L :: F) ?_ ?_
 · refine ⟨_, _, ⟨_, 0, List.replicate 32 (iV 0), ⟨Nat.zero_le _, by simp, by intro j hj; omega⟩, rfl, (updS rfl (updS rfl (updS rfl (updS rfl rfl)))), rfl⟩, Sub.any⟩
 ·
  rintro mz fz lz ⟨f0, i, L, ⟨hi, hL, hones⟩, hmz, rfl, rfl⟩
  subst mz
  try simp only [List.cons_append, List.nil_append]
  refine T.seq ?_
  refine T.seq ?_
  refine T.region ?_
  refine LW.q rfl (Qt.move rfl) ?_
  refine LW.q rfl (Qt.lss rfl rfl) ?_
  refine LW.done ?_
  refine T.condP rfl (fun hlt => ?_) (fun hlt => ?_)
  ·
   refine T.skip ?_
   refine T.seq ?_
   refine T.block ?_
   refine T.region ?_
   refine LW.q rfl (Qt.move rfl) ?_
   refine LW.q rfl (Qt.move rfl) ?_
   refine LW.q rfl (Qt.index _ (e := 3) (sz := 1) (by kernel_rfl) rfl rfl rfl (by omega)) ?_
   refine LW.e0 rfl (Ef.store1 (by kernel_rfl) rfl rfl rfl (by first | (simp; done) | (simp; omega)) ?_)
   try simp only [List.set_cons_zero, List.set_cons_succ]
   refine LW.done ?_
   refine T.region ?_
   refine LW.q rfl (Qt.move rfl) ?_
   refine LW.q rfl (Qt.add rfl rfl (wr64 (by omega) (by omega))) ?_
   refine LW.q rfl (Qt.assign rfl) ?_
   refine LW.done ?_
   refine ⟨_, ?_, _, ⟨_, i + 1, L.set (0 + i * 1) (iV 1), ⟨by omega, by simp [hL], set_pre hL (by omega) hones rfl⟩, rfl, (updS rfl (updS rfl (updS rfl (updS rfl rfl)))), rfl⟩, Sub.any⟩
   first | omega | (simp; omega)
  ·
   obtain rfl : i = 32 := by omega
   obtain rfl : L = restV (regI a 0) := restV_of hL (fun j hj => by rw [hones j hj, regI_zero, bitN_ones j hj])
   refine T.exit ?_
   refine T.seq ?_
   refine T.region ?_
   refine LW.q rfl (Qt.buildA powV (len := 32) (e := 3) (by kernel_rfl) (by kernel_rfl) rfl (by simp [powV, Value.cells]) rfl) ?_
   refine LW.e rfl (Ef.alloc [.int .i64 0, .int .i64 0, .int .i64 0, .int .i64 0, .int .i64 0, .int .i64 0, .int .i64 0, .int .i64 0, .int .i64 0, .int .i64 0, .int .i64 0, .int .i64 0, .int .i64 0, .int .i64 0, .int .i64 0, .int .i64 0, .int .i64 0, .int .i64 0, .int .i64 0, .int .i64 0, .int .i64 0, .int .i64 0, .int .i64 0, .int .i64 0, .int .i64 0, .int .i64 0, .int .i64 0, .int .i64 0, .int .i64 0, .int .i64 0, .int .i64 0, .int .i64 0] (by unfold zeroB; kernel_rfl) ?_)
   intro g6
   refine LW.e0 rfl (Ef.store [_, _, _, _, _, _, _, _, _, _, _, _, _, _, _, _, _, _, _, _, _, _, _, _, _, _, _, _, _, _, _, _] (by kernel_rfl) rfl rfl rfl rfl (by simp) ?_)
   try simp only [splice, List.length_cons, List.length_nil, List.drop_succ_cons, List.cons_append, List.take_succ_cons, List.take_zero, List.drop_zero, List.nil_append, List.append_nil]
   refine LW.done ?_
   refine T.seq ?_
   refine T.seq ?_
   refine T.region ?_
   refine LW.q rfl (Qt.assign rfl) ?_
   refine LW.done ?_
   refine T.block ?_
   refine T.loop (fun mz fz lz => ∃ (f0 : Fr) (i g : Nat), (i ≤ 8 * a.length) ∧ mz = 8 * a.length - i ∧ fz = (upd (upd (upd (upd (upd f0 0 (.string (strOf a))) 3 (.int .i64 ((a.length : Int) * 8))) 4 (.slice (some ⟨g, 0, none⟩) 32 32)) 6 (.pointer (some ⟨g6, 0, none⟩))) 7 (.int .i64 i)) ∧ lz = intR g (restV (regI a i)) :: blk g6 powV 164 :: F) ?_ ?_
   · refine ⟨_, _, ⟨_, 0, g17, Nat.zero_le _, rfl, (updS rfl (updS rfl (updS rfl (updS rfl (updS rfl rfl))))), rfl⟩, Sub.any⟩
   ·
    rintro mz fz lz ⟨f0, i, g, hi, hmz, rfl, rfl⟩
    subst mz
    try simp only [List.cons_append, List.nil_append]
    obtain ⟨s, hs⟩ : ∃ s, regI a i = s := ⟨_, rfl⟩
    rw [hs]
    refine T.seq ?_
    refine T.seq ?_
    refine T.region ?_
    refine LW.q rfl (Qt.move rfl) ?_
    refine LW.q rfl (Qt.move rfl) ?_
    refine LW.q rfl (Qt.lss rfl rfl) ?_
    refine LW.done ?_
    refine T.condP rfl (fun hlt => ?_) (fun hlt => ?_)
    ·
     obtain ⟨b, hb⟩ : ∃ b, ((a.getD (i / 8) 0).toNat.testBit (i % 8)).toNat = b := ⟨_, rfl⟩
     have hb1 : b ≤ 1 := by rw [← hb]; cases (a.getD (i / 8) 0).toNat.testBit (i % 8) <;> simp
     have hb2 : (a.getD (i / 8) 0).toNat.testBit (i % 8) = decide (b = 1) := by rw [← hb]; cases (a.getD (i / 8) 0).toNat.testBit (i % 8) <;> rfl
     have hst : regI a (i + 1) = stepB s (decide (b = 1)) := by rw [regI_succ a i (by omega), hs, hb2]
     have hs0 := bitN_le s 0
     refine T.skip ?_
     refine T.seq ?_
     refine T.block ?_
     refine T.seq ?_
     refine T.draw 8 ([intR g (restV s)]) (by kernel_rfl) (Nat.le_of_ble_eq_true rfl) (by kernel_rfl) ?_
     refine RW.q 0 rfl rfl (by kernel_rfl) Sub.any (Qt.move rfl) ?_
     refine RW.q 1 rfl rfl (by kernel_rfl) Sub.any (Qt.index 0 (e := 3) (sz := 1) (by kernel_rfl) rfl rfl rfl (by omega)) ?_
     refine RW.q 2 rfl rfl (by kernel_rfl) Sub.any (Qt.load (v := iV (bitN s 0)) (by kernel_rfl) rfl (rest_at s 0 (by omega))) ?_
     refine RW.q 3 rfl rfl (by kernel_rfl) Sub.any (Qt.move rfl) ?_
     refine RW.q 4 rfl rfl (by kernel_rfl) Sub.any (Qt.move rfl) ?_
     refine RW.one 5 (by kernel_rfl) ?_
     refine RO.eS rfl rfl (Ef.call (Rc.bit B a i i rfl (by omega) (by omega)) Tryz.func81 rfl rfl rfl ?_)
     rintro _ _ ⟨rfl, rfl⟩
     try simp only [List.cons_append, List.nil_append]
     rw [hb]
     refine ⟨Sub.any, ?_⟩
     refine RW.q 6 rfl rfl (by kernel_rfl) Sub.any (Qt.add rfl rfl (wr64 (by omega) (by omega))) ?_
     refine RW.q 7 rfl rfl (by kernel_rfl) Sub.any (Qt.rem rfl rfl (by omega) (rem_add _ _)) ?_
     refine RW.done (by rfl) ?_
     simp only [List.drop_succ_cons, List.drop_zero, List.drop_nil]
     refine LW.q rfl (Qt.assign rfl) ?_
     refine LW.done ?_
     refine T.seq ?_
     refine T.region ?_
     obtain ⟨top, htop⟩ : ∃ top, (bitN s 0 + b) % 2 = top := ⟨_, rfl⟩
     have ht1 : top ≤ 1 := by omega
     rw [htop]
     refine LW.e rfl (Ef.make 32 (.int .i64 0) 8 Cd.elemI (by kernel_rfl) rfl rfl rfl rfl (by omega) (by unfold maxLen; omega) ?_)
     rintro g39
     try simp only [List.cons_append, List.nil_append]
     rw [made_ints]
     refine LW.q rfl (Qt.assign rfl) ?_
     refine LW.done ?_
     refine T.seq ?_
     refine T.seq ?_
     refine T.region ?_
     refine LW.q rfl (Qt.assign rfl) ?_
     refine LW.done ?_
     refine T.block ?_
     refine T.loop (fun mz fz lz => ∃ (f0 : Fr) (k : Nat) (L : List Value), (k ≤ 32 ∧ L.length = 32 ∧ ∀ j, j < k → L[j]? = some ((fun j => iV (bitN (regI a (i + 1)) j)) j)) ∧ mz = 32 - k ∧ fz = (upd (upd (upd (upd (upd (upd (upd (upd f0 0 (.string (strOf a))) 3 (.int .i64 ((a.length : Int) * 8))) 4 (.slice (some ⟨g, 0, none⟩) 32 32)) 6 (.pointer (some ⟨g6, 0, none⟩))) 7 (.int .i64 i)) 8 (iV top)) 9 (.slice (some ⟨g39, 0, none⟩) 32 32)) 10 (.int .i64 k)) ∧ lz = intR g39 L :: intR g (restV s) :: blk g6 powV 164 :: F) ?_ ?_
     · refine ⟨_, _, ⟨_, 0, List.replicate 32 (iV 0), ⟨Nat.zero_le _, by simp, by intro j hj; omega⟩, rfl, (updS rfl (updS rfl (updS rfl (updS rfl (updS rfl (updS rfl (updS rfl (updS rfl rfl)))))))), rfl⟩, Sub.any⟩
     ·
      rintro mz fz lz ⟨f0, k, L, ⟨hk, hL, hpre⟩, hmz, rfl, rfl⟩
      subst mz
      try simp only [List.cons_append, List.nil_append]
      refine T.seq ?_
      refine T.seq ?_
      refine T.region ?_
      refine LW.q rfl (Qt.move rfl) ?_
      refine LW.q rfl (Qt.lss rfl rfl) ?_
      refine LW.done ?_
      refine T.condP rfl (fun hkl => ?_) (fun hkl => ?_)
      ·
       have hp1 := bitN_le crcP k
       have hx1 := bitN_le s (k + 1)
       have htp : top * bitN crcP k ≤ 1 := Nat.mul_le_mul ht1 hp1
       have hnew : bitN (regI a (i + 1)) k = (bitN s (k + 1) + top * bitN crcP k) % 2 := by rw [hst, bitN_step s b k hb1 _ rfl, htop]
       refine T.skip ?_
       refine T.seq ?_
       refine T.block ?_
       refine T.seq ?_
       refine T.region ?_
       refine LW.q rfl (Qt.assign rfl) ?_
       refine LW.done ?_
       refine T.seq ?_
       refine T.seq ?_
       refine T.region ?_
       refine LW.q rfl (Qt.move rfl) ?_
       refine LW.q rfl (Qt.lss rfl rfl) ?_
       refine LW.done ?_
       refine T.condP rfl (fun h31 => ?_) (fun h31 => ?_)
       ·
        refine T.region ?_
        refine LW.q rfl (Qt.move rfl) ?_
        refine LW.q rfl (Qt.move rfl) ?_
        refine LW.q rfl (Qt.add rfl rfl (wr64 (by omega) (by omega))) ?_
        refine LW.q rfl (Qt.index (k + 1) (e := 3) (sz := 1) (by kernel_rfl) rfl rfl (by omega) (by omega)) ?_
        refine LW.q rfl (Qt.load (v := iV (bitN s (k + 1))) (by kernel_rfl) rfl (rest_at s (k + 1) (by omega))) ?_
        refine LW.q rfl (Qt.assign rfl) ?_
        refine LW.done ?_
        refine T.region ?_
        refine LW.q rfl (Qt.move rfl) ?_
        refine LW.q rfl (Qt.move rfl) ?_
        refine LW.q rfl (Qt.move rfl) ?_
        refine LW.q rfl (Qt.move rfl) ?_
        refine LW.q rfl (Qt.move rfl) ?_
        refine LW.q rfl (Qt.indexA _ (len := 32) (e := 3) (sz := 1) (by kernel_rfl) rfl rfl rfl (by omega)) ?_
        refine LW.q rfl (Qt.load (v := iV (bitN crcP k)) (by kernel_rfl) rfl (pow_at k (by omega))) ?_
        refine LW.q rfl (Qt.mul rfl rfl (mul_bits ht1 hp1)) ?_
        refine LW.q rfl (Qt.add rfl rfl (wr64 (by omega) (by omega))) ?_
        refine LW.q rfl (Qt.rem rfl rfl (by omega) (rem_add _ _)) ?_
        refine LW.q rfl (Qt.index _ (e := 3) (sz := 1) (by kernel_rfl) rfl rfl rfl (by omega)) ?_
        refine LW.e0 rfl (Ef.store1 (by kernel_rfl) rfl rfl rfl (by first | (simp; done) | (simp; omega)) ?_)
        try simp only [List.set_cons_zero, List.set_cons_succ]
        refine LW.done ?_
        refine T.region ?_
        refine LW.q rfl (Qt.move rfl) ?_
        refine LW.q rfl (Qt.add rfl rfl (wr64 (by omega) (by omega))) ?_
        refine LW.q rfl (Qt.assign rfl) ?_
        refine LW.done ?_
        refine ⟨_, ?_, _, ⟨_, k + 1, L.set (0 + k * 1) (iV ((bitN s (k + 1) + top * bitN crcP k) % 2)), ⟨by omega, by simp [hL], set_pre hL (by omega) hpre (by rw [hnew])⟩, rfl, (updS rfl (updS rfl (updS rfl (updS rfl (updS rfl (updS rfl (updS rfl (updS rfl rfl)))))))), rfl⟩, Sub.any⟩
        first | omega | (simp; omega)
       ·
        obtain rfl : k = 31 := by omega
        rw [bitN_top] at hnew
        refine T.skip ?_
        refine T.region ?_
        refine LW.q rfl (Qt.move rfl) ?_
        refine LW.q rfl (Qt.move rfl) ?_
        refine LW.q rfl (Qt.move rfl) ?_
        refine LW.q rfl (Qt.move rfl) ?_
        refine LW.q rfl (Qt.move rfl) ?_
        refine LW.q rfl (Qt.indexA _ (len := 32) (e := 3) (sz := 1) (by kernel_rfl) rfl rfl rfl (by omega)) ?_
        refine LW.q rfl (Qt.load (v := iV (bitN crcP 31)) (by kernel_rfl) rfl (pow_at 31 (by omega))) ?_
        refine LW.q rfl (Qt.mul rfl rfl (mul_bits ht1 hp1)) ?_
        refine LW.q rfl (Qt.add rfl rfl (wr64 (by omega) (by omega))) ?_
        refine LW.q rfl (Qt.rem rfl rfl (by omega) (rem_add 0 _)) ?_
        refine LW.q rfl (Qt.index _ (e := 3) (sz := 1) (by kernel_rfl) rfl rfl rfl (by omega)) ?_
        refine LW.e0 rfl (Ef.store1 (by kernel_rfl) rfl rfl rfl (by first | (simp; done) | (simp; omega)) ?_)
        try simp only [List.set_cons_zero, List.set_cons_succ]
        refine LW.done ?_
        refine T.region ?_
        refine LW.q rfl (Qt.move rfl) ?_
        refine LW.q rfl (Qt.add rfl rfl (wr64 (by omega) (by omega))) ?_
        refine LW.q rfl (Qt.assign rfl) ?_
        refine LW.done ?_
        refine ⟨_, ?_, _, ⟨_, 32, L.set (0 + 31 * 1) (iV ((0 + top * bitN crcP 31) % 2)), ⟨by omega, by simp [hL], set_pre hL (by omega) hpre (by rw [hnew])⟩, rfl, (updS rfl (updS rfl (updS rfl (updS rfl (updS rfl (updS rfl (updS rfl (updS rfl rfl)))))))), rfl⟩, Sub.any⟩
        first | omega | (simp; omega)
      ·
       obtain rfl : k = 32 := by omega
       obtain rfl : L = restV (regI a (i + 1)) := restV_of hL hpre
       refine T.exit ?_
       refine T.region ?_
       refine LW.q rfl (Qt.move rfl) ?_
       refine LW.q rfl (Qt.assign rfl) ?_
       refine LW.done ?_
       refine T.region ?_
       refine LW.q rfl (Qt.move rfl) ?_
       refine LW.q rfl (Qt.add rfl rfl (wr64 (by omega) (by omega))) ?_
       refine LW.q rfl (Qt.assign rfl) ?_
       refine LW.done ?_
       refine ⟨_, ?_, _, ⟨_, i + 1, g39, by omega, rfl, (updS rfl (updS rfl (updS rfl (updS rfl (updS rfl rfl))))), rfl⟩, Sub.any⟩
       first | omega | (simp; omega)
    ·
     obtain rfl : i = 8 * a.length := by omega
     obtain rfl : crcS a = s := by rw [← hs, regI_all]
     refine T.exit ?_
     refine T.seq ?_
     refine T.region ?_
     refine LW.q rfl (Qt.assign rfl) ?_
     refine LW.done ?_
     refine T.seq ?_
     refine T.seq ?_
     refine T.region ?_
     refine LW.q rfl (Qt.assign rfl) ?_
     refine LW.done ?_
     refine T.block ?_
     refine T.loop (fun mz fz lz => ∃ (f0 : Fr) (k m : Nat), (k ≤ 32 ∧ m = (~~~ crcS a).toNat % 2 ^ k) ∧ mz = 32 - k ∧ fz = (upd (upd (upd f0 4 (.slice (some ⟨g, 0, none⟩) 32 32)) 12 (.int .u32 m)) 13 (.int .i64 k)) ∧ lz = intR g (restV (crcS a)) :: F) ?_ ?_
     · refine ⟨_, _, ⟨_, 0, 0, ⟨Nat.zero_le _, by simp [Nat.mod_one]⟩, rfl, (updS rfl (updS rfl (updS rfl rfl))), rfl⟩, Sub.any⟩
     ·
      rintro mz fz lz ⟨f0, k, m, ⟨hk, hm⟩, hmz, rfl, rfl⟩
      subst mz
      try simp only [List.cons_append, List.nil_append]
      refine T.seq ?_
      refine T.seq ?_
      refine T.region ?_
      refine LW.q rfl (Qt.move rfl) ?_
      refine LW.q rfl (Qt.lss rfl rfl) ?_
      refine LW.done ?_
      refine T.condP rfl (fun hkl => ?_) (fun hkl => ?_)
      ·
       have hlow := not_low (crcS a) k (by omega)
       rw [← hm] at hlow
       have hlt3 : (~~~ crcS a).toNat % 2 ^ (k + 1) < 2 ^ 32 := Nat.lt_of_le_of_lt (Nat.mod_le _ _) (~~~ crcS a).toNat_lt
       refine T.skip ?_
       refine T.seq ?_
       refine T.block ?_
       refine T.seq ?_
       refine T.region ?_
       refine LW.q rfl (Qt.move rfl) ?_
       refine LW.q rfl (Qt.move rfl) ?_
       refine LW.q rfl (Qt.index _ (e := 3) (sz := 1) (by kernel_rfl) rfl rfl rfl (by omega)) ?_
       refine LW.q rfl (Qt.load (v := iV (bitN (crcS a) k)) (by kernel_rfl) rfl (rest_at _ k (by omega))) ?_
       refine LW.q rfl (Qt.eql rfl rfl) ?_
       refine LW.done ?_
       refine T.condP rfl (fun h0 => ?_) (fun h0 => ?_)
       ·
        rw [if_pos (by omega)] at hlow
        refine T.region ?_
        refine LW.q rfl (Qt.move rfl) ?_
        refine LW.q rfl (Qt.move rfl) ?_
        refine LW.q rfl (Qt.shl1 k rfl rfl rfl (by omega)) ?_
        refine LW.q rfl (Qt.add rfl rfl (wru32 (by omega) (by omega))) ?_
        refine LW.q rfl (Qt.assign rfl) ?_
        refine LW.done ?_
        refine T.region ?_
        refine LW.q rfl (Qt.move rfl) ?_
        refine LW.q rfl (Qt.add rfl rfl (wr64 (by omega) (by omega))) ?_
        refine LW.q rfl (Qt.assign rfl) ?_
        refine LW.done ?_
        refine ⟨_, ?_, _, ⟨_, k + 1, m + 2 ^ k, ⟨by omega, by rw [hlow]⟩, rfl, (updS rfl (updS rfl (updS rfl rfl))), rfl⟩, Sub.any⟩
        first | omega | (simp; omega)
       ·
        rw [if_neg (by omega)] at hlow
        refine T.skip ?_
        refine T.region ?_
        refine LW.q rfl (Qt.move rfl) ?_
        refine LW.q rfl (Qt.add rfl rfl (wr64 (by omega) (by omega))) ?_
        refine LW.q rfl (Qt.assign rfl) ?_
        refine LW.done ?_
        refine ⟨_, ?_, _, ⟨_, k + 1, m, ⟨by omega, by rw [hlow]; rfl⟩, rfl, (updS rfl (updS rfl (updS rfl rfl))), rfl⟩, Sub.any⟩
        first | omega | (simp; omega)
      ·
       obtain rfl : k = 32 := by omega
       rw [Nat.mod_eq_of_lt (~~~ crcS a).toNat_lt] at hm
       refine T.exit ?_
       refine T.seq ?_
       refine T.region ?_
       refine LW.q rfl (Qt.move rfl) ?_
       refine LW.q rfl (Qt.assign rfl) ?_
       refine LW.done ?_
       refine T.ret ?_
       exact ⟨.inl rfl, _, _, res [_] rfl ⟨rvT rfl, trivial⟩, ⟨by rw [hm]; rfl, rfl⟩, Sub.any⟩
end Go.Proofs.YtegohgaccmkigaaGreatDoor

/- The statement WalKeeps. Conditions: that what is handed in can be read; sizes. -/
set_option linter.unusedSimpArgs false
set_option linter.unusedVariables false
namespace Go.Proofs.YtegohgaccmkigaaGreatDoor
open Go.RowKit

section
variable {P : Program} {B : Base} {n : Nat} {l r : List Assn} {f : Fr} {Φ : Post} {c : Code}
end
end Go.Proofs.YtegohgaccmkigaaGreatDoor

/- The statement WalParts. Conditions: that what is handed in can be read; sizes. -/
set_option linter.unusedSimpArgs false
set_option linter.unusedVariables false
namespace Go.Proofs.YtegohgaccmkigaaGreatDoor
open Go.RowKit

end Go.Proofs.YtegohgaccmkigaaGreatDoor

/- The statement WalAgain. Conditions: that what is handed in can be read; sizes. -/
set_option linter.unusedSimpArgs false
set_option linter.unusedVariables false
namespace Go.Proofs.YtegohgaccmkigaaGreatDoor
open Go.RowKit

end Go.Proofs.YtegohgaccmkigaaGreatDoor

/- The document's log (annalsref05): Seal, Add, sector. Conditions: sizes. -/
set_option linter.unusedSimpArgs false
set_option linter.unusedVariables false
namespace Go.Proofs.YtegohgaccmkigaaGreatDoor
open Go.RowKit

/-- The document's log. -/
abbrev logV (W : Wl) : Value := .agg #[.string (strOf W.st), .int .u32 W.sum.toNat, .int .i64 W.dur, .int .i64 W.first, .int .i64 W.count]

set_option maxRecDepth 100000 in
theorem Rl.shut (B : Base) (last : UInt32) (at_ : Int) (d : List UInt8) (hd : d.length < 2 ^ 31) : Fn Tryz.prog B 49 #[.int .u32 last.toNat, .int .i64 at_, .string (strOf d)] [] (fun v l => v = .int .u32 (sealW last at_ d).toNat ∧ l = []) := by
  refine Fn.enter3 17 Tryz.func49 rfl rfl (Nat.le_of_ble_eq_true rfl) (fun F => ?_)
  try simp only [List.cons_append, List.nil_append]
  refine T.seq ?_
  refine T.region ?_
  refine LW.q rfl (Qt.assign rfl) ?_
  refine LW.done ?_
  refine T.seq ?_
  refine T.region ?_
  refine LW.q rfl (Qt.move rfl) ?_
  refine LW.q rfl (Qt.convI (by kernel_rfl) (by kernel_rfl) rfl (wru64_u32 last)) ?_
  refine LW.e rfl (Ef.call (Rc.number B last.toUInt64 4 4 rfl (by omega)) Tryz.func50 rfl rfl rfl ?_)
  rintro _ _ ⟨rfl, rfl⟩
  try simp only [List.cons_append, List.nil_append]
  refine LW.q rfl (Qt.move rfl) ?_
  refine LW.q rfl (Qt.convI (by kernel_rfl) (by kernel_rfl) rfl (wru64_i64 _)) ?_
  refine LW.e rfl (Ef.call (Rc.number B (UInt64.ofInt at_) 8 8 rfl (by omega)) Tryz.func50 rfl rfl rfl ?_)
  rintro _ _ ⟨rfl, rfl⟩
  try simp only [List.cons_append, List.nil_append]
  refine LW.q rfl (Qt.addS rfl rfl (by simp [length_be])) ?_
  refine LW.q rfl (Qt.move rfl) ?_
  refine LW.q rfl (Qt.addS rfl rfl (by simp [length_be]; omega)) ?_
  refine LW.e rfl (Ef.call (Rc.sum B (be last.toUInt64 4 ++ be (UInt64.ofInt at_) 8 ++ d) (by simp [length_be]; omega)) Tryz.func68 rfl rfl rfl ?_)
  rintro _ _ ⟨rfl, rfl⟩
  try simp only [List.cons_append, List.nil_append]
  refine LW.q rfl (Qt.assign rfl) ?_
  refine LW.done ?_
  refine T.ret ?_
  exact ⟨.inl rfl, _, _, res [_] rfl ⟨rvT rfl, trivial⟩, ⟨rfl, rfl⟩, Sub.any⟩

set_option maxHeartbeats 1000000 in
set_option maxRecDepth 100000 in
theorem Rl.add (B : Base) (W : Wl) (d : List UInt8) (hcnt : W.count ≤ 4096) (hst : W.st.length ≤ W.count * 256) (hd : d.length < 2 ^ 31) : Fn Tryz.prog B 25 #[logV W, .string (strOf d)] [] (fun v l => v = .tuple #[logV (addW W d).1, .int .i64 (addW W d).2.2] ∧ l = []) := by
 refine Fn.enter2 50 Tryz.func25 rfl rfl (Nat.le_of_ble_eq_true rfl) (fun F => ?_)
 try simp only [List.cons_append, List.nil_append]
 refine T.seq ?_
 refine T.region ?_
 refine LW.e rfl (Ef.box [_, _, _, _, _] rfl rfl ?_)
 intro g2
 refine LW.e rfl (Ef.alloc [.string .empty, .int .u32 0, .int .i64 0, .int .i64 0, .int .i64 0] (by unfold zeroB; kernel_rfl) ?_)
 intro g4
 refine LW.q rfl (Qt.assign rfl) ?_
 refine LW.done ?_
 refine T.seq ?_
 refine T.seq ?_
 refine T.region ?_
 refine LW.q rfl (Qt.move rfl) ?_
 first | refine LW.q rfl (Qt.lenSt (by kernel_rfl) rfl) ?_ | refine LW.q rfl (Qt.lenS (by kernel_rfl) rfl) ?_
 refine LW.q rfl (Qt.eql rfl rfl) ?_
 refine LW.done ?_
 refine T.condP rfl (fun h0 => ?_) (fun h0 => ?_)
 ·
  refine T.seq ?_
  refine T.region ?_
  first | refine LW.q rfl (Qt.loadAgg [_, _, _, _, _] (by kernel_rfl) rfl ⟨rfl, rfl, rfl, rfl, rfl, trivial⟩) ?_ | refine LW.q rfl (Qt.loadAgg [_, _, _, _, _] (by kernel_rfl) rfl (by exact rdl_flat _ _ _ (by intros; rfl) _ (by omega))) ?_
  refine LW.e0 rfl (Ef.store [_, _, _, _, _] (by kernel_rfl) rfl rfl rfl rfl (by simp) ?_)
  try simp only [splice, List.length_cons, List.length_nil, List.drop_succ_cons, List.cons_append, List.take_succ_cons, List.take_zero, List.drop_zero, List.nil_append, List.append_nil]
  refine LW.q rfl (Qt.assign rfl) ?_
  refine LW.done ?_
  refine T.ret ?_
  exact ⟨.inl rfl, _, _, res [_, _] rfl ⟨rvA [_, _, _, _, _] (by kernel_rfl) rfl ⟨rfl, rfl, rfl, rfl, rfl, trivial⟩, rvT rfl, trivial⟩, ⟨by unfold addW; rw [if_pos (by omega)]; rfl, rfl⟩, Sub.any⟩
 ·
  refine T.skip ?_
  refine T.seq ?_
  refine T.seq ?_
  refine T.region ?_
  refine LW.q rfl (Qt.move rfl) ?_
  first | refine LW.q rfl (Qt.lenSt (by kernel_rfl) rfl) ?_ | refine LW.q rfl (Qt.lenS (by kernel_rfl) rfl) ?_
  refine LW.q rfl (Qt.gtr rfl rfl) ?_
  refine LW.done ?_
  refine T.condP rfl (fun h1 => ?_) (fun h1 => ?_)
  ·
   refine T.seq ?_
   refine T.region ?_
   first | refine LW.q rfl (Qt.loadAgg [_, _, _, _, _] (by kernel_rfl) rfl ⟨rfl, rfl, rfl, rfl, rfl, trivial⟩) ?_ | refine LW.q rfl (Qt.loadAgg [_, _, _, _, _] (by kernel_rfl) rfl (by exact rdl_flat _ _ _ (by intros; rfl) _ (by omega))) ?_
   refine LW.e0 rfl (Ef.store [_, _, _, _, _] (by kernel_rfl) rfl rfl rfl rfl (by simp) ?_)
   try simp only [splice, List.length_cons, List.length_nil, List.drop_succ_cons, List.cons_append, List.take_succ_cons, List.take_zero, List.drop_zero, List.nil_append, List.append_nil]
   refine LW.q rfl (Qt.assign rfl) ?_
   refine LW.done ?_
   refine T.ret ?_
   exact ⟨.inl rfl, _, _, res [_, _] rfl ⟨rvA [_, _, _, _, _] (by kernel_rfl) rfl ⟨rfl, rfl, rfl, rfl, rfl, trivial⟩, rvT rfl, trivial⟩, ⟨by unfold addW; rw [if_neg (by omega), if_pos (by omega)]; rfl, rfl⟩, Sub.any⟩
  ·
   refine T.skip ?_
   refine T.seq ?_
   refine T.seq ?_
   refine T.region ?_
   refine LW.q rfl (Qt.fieldAddr0 (by kernel_rfl) rfl) ?_
   first | refine LW.q rfl (Qt.load (by kernel_rfl) rfl rfl) ?_ | refine LW.q rfl (Qt.load (by kernel_rfl) rfl (map_at _ _ _ (by omega))) ?_ | refine LW.q rfl (Qt.load (by kernel_rfl) rfl (flat_cell0 _ _ _ (by intros; rfl) _ (by omega) (by rfl))) ?_ | refine LW.q rfl (Qt.load (by kernel_rfl) rfl (flat_cell _ _ _ (by intros; rfl) _ _ (by omega) (by rfl))) ?_ | refine LW.q rfl (Qt.load (by kernel_rfl) rfl (bytes_at _ _ (by omega))) ?_
   first | refine LW.q rfl (Qt.lenSt (by kernel_rfl) rfl) ?_ | refine LW.q rfl (Qt.lenS (by kernel_rfl) rfl) ?_
   refine LW.q rfl (Qt.add rfl rfl (wr64 (by omega) (by omega))) ?_
   refine LW.q rfl (Qt.move rfl) ?_
   first | refine LW.q rfl (Qt.lenSt (by kernel_rfl) rfl) ?_ | refine LW.q rfl (Qt.lenS (by kernel_rfl) rfl) ?_
   refine LW.q rfl (Qt.add rfl rfl (wr64 (by omega) (by omega))) ?_
   refine LW.q rfl (Qt.fieldAddr (off := 4) (by kernel_rfl) rfl) ?_
   first | refine LW.q rfl (Qt.load (by kernel_rfl) rfl rfl) ?_ | refine LW.q rfl (Qt.load (by kernel_rfl) rfl (map_at _ _ _ (by omega))) ?_ | refine LW.q rfl (Qt.load (by kernel_rfl) rfl (flat_cell0 _ _ _ (by intros; rfl) _ (by omega) (by rfl))) ?_ | refine LW.q rfl (Qt.load (by kernel_rfl) rfl (flat_cell _ _ _ (by intros; rfl) _ _ (by omega) (by rfl))) ?_ | refine LW.q rfl (Qt.load (by kernel_rfl) rfl (bytes_at _ _ (by omega))) ?_
   refine LW.q rfl (Qt.mul rfl rfl (wr64 (by omega) (by omega))) ?_
   refine LW.q rfl (Qt.gtr rfl rfl) ?_
   refine LW.done ?_
   refine T.condP rfl (fun h2 => ?_) (fun h2 => ?_)
   ·
    refine T.seq ?_
    refine T.region ?_
    first | refine LW.q rfl (Qt.loadAgg [_, _, _, _, _] (by kernel_rfl) rfl ⟨rfl, rfl, rfl, rfl, rfl, trivial⟩) ?_ | refine LW.q rfl (Qt.loadAgg [_, _, _, _, _] (by kernel_rfl) rfl (by exact rdl_flat _ _ _ (by intros; rfl) _ (by omega))) ?_
    refine LW.e0 rfl (Ef.store [_, _, _, _, _] (by kernel_rfl) rfl rfl rfl rfl (by simp) ?_)
    try simp only [splice, List.length_cons, List.length_nil, List.drop_succ_cons, List.cons_append, List.take_succ_cons, List.take_zero, List.drop_zero, List.nil_append, List.append_nil]
    refine LW.q rfl (Qt.assign rfl) ?_
    refine LW.done ?_
    refine T.ret ?_
    exact ⟨.inl rfl, _, _, res [_, _] rfl ⟨rvA [_, _, _, _, _] (by kernel_rfl) rfl ⟨rfl, rfl, rfl, rfl, rfl, trivial⟩, rvT rfl, trivial⟩, ⟨by unfold addW; rw [if_neg (by omega), if_neg (by omega), if_pos (by omega)]; rfl, rfl⟩, Sub.any⟩
   ·
    refine T.skip ?_
    refine T.seq ?_
    refine T.region ?_
    refine LW.q rfl (Qt.fieldAddr (off := 1) (by kernel_rfl) rfl) ?_
    first | refine LW.q rfl (Qt.load (by kernel_rfl) rfl rfl) ?_ | refine LW.q rfl (Qt.load (by kernel_rfl) rfl (map_at _ _ _ (by omega))) ?_ | refine LW.q rfl (Qt.load (by kernel_rfl) rfl (flat_cell0 _ _ _ (by intros; rfl) _ (by omega) (by rfl))) ?_ | refine LW.q rfl (Qt.load (by kernel_rfl) rfl (flat_cell _ _ _ (by intros; rfl) _ _ (by omega) (by rfl))) ?_ | refine LW.q rfl (Qt.load (by kernel_rfl) rfl (bytes_at _ _ (by omega))) ?_
    refine LW.q rfl (Qt.fieldAddr0 (by kernel_rfl) rfl) ?_
    first | refine LW.q rfl (Qt.load (by kernel_rfl) rfl rfl) ?_ | refine LW.q rfl (Qt.load (by kernel_rfl) rfl (map_at _ _ _ (by omega))) ?_ | refine LW.q rfl (Qt.load (by kernel_rfl) rfl (flat_cell0 _ _ _ (by intros; rfl) _ (by omega) (by rfl))) ?_ | refine LW.q rfl (Qt.load (by kernel_rfl) rfl (flat_cell _ _ _ (by intros; rfl) _ _ (by omega) (by rfl))) ?_ | refine LW.q rfl (Qt.load (by kernel_rfl) rfl (bytes_at _ _ (by omega))) ?_
    first | refine LW.q rfl (Qt.lenSt (by kernel_rfl) rfl) ?_ | refine LW.q rfl (Qt.lenS (by kernel_rfl) rfl) ?_
    refine LW.q rfl (Qt.move rfl) ?_
    refine LW.e rfl (Ef.call (Rl.shut B W.sum W.st.length d hd) Tryz.func49 rfl rfl rfl ?_)
    rintro _ _ ⟨rfl, rfl⟩
    try simp only [List.cons_append, List.nil_append]
    obtain ⟨s, hs⟩ : ∃ s, sealW W.sum W.st.length d = s := ⟨_, rfl⟩
    rw [hs]
    refine LW.q rfl (Qt.fieldAddr (off := 1) (by kernel_rfl) rfl) ?_
    refine LW.e0 rfl (Ef.store1 (by kernel_rfl) rfl rfl rfl (by first | (simp; done) | (simp; omega)) ?_)
    try simp only [List.set_cons_zero, List.set_cons_succ]
    refine LW.done ?_
    refine T.seq ?_
    refine T.drawBl 14 none (by kernel_rfl) (Nat.le_of_ble_eq_true rfl) (by kernel_rfl) ?_
    refine RW.q 0 rfl rfl (by kernel_rfl) Sub.any (Qt.fieldAddr0 (by kernel_rfl) rfl) ?_
    first | refine RW.q 1 rfl rfl (by kernel_rfl) Sub.any (Qt.load (by kernel_rfl) rfl rfl) ?_ | refine RW.q 1 rfl rfl (by kernel_rfl) Sub.any (Qt.load (by kernel_rfl) rfl (map_at _ _ _ (by omega))) ?_ | refine RW.q 1 rfl rfl (by kernel_rfl) Sub.any (Qt.load (by kernel_rfl) rfl (flat_cell0 _ _ _ (by intros; rfl) _ (by omega) (by rfl))) ?_ | refine RW.q 1 rfl rfl (by kernel_rfl) Sub.any (Qt.load (by kernel_rfl) rfl (flat_cell _ _ _ (by intros; rfl) _ _ (by omega) (by rfl))) ?_ | refine RW.q 1 rfl rfl (by kernel_rfl) Sub.any (Qt.load (by kernel_rfl) rfl (bytes_at _ _ (by omega))) ?_
    refine RW.q 2 rfl rfl (by kernel_rfl) Sub.any (Qt.move rfl) ?_
    first | refine RW.q 3 rfl rfl (by kernel_rfl) Sub.any (Qt.lenSt (by kernel_rfl) rfl) ?_ | refine RW.q 3 rfl rfl (by kernel_rfl) Sub.any (Qt.lenS (by kernel_rfl) rfl) ?_
    refine RW.q 4 rfl rfl (by kernel_rfl) Sub.any (Qt.convI (by kernel_rfl) (by kernel_rfl) rfl (wru64_i64 _)) ?_
    refine RW.q 6 rfl rfl (by kernel_rfl) Sub.any (Qt.fieldAddr (off := 1) (by kernel_rfl) rfl) ?_
    first | refine RW.q 7 rfl rfl (by kernel_rfl) Sub.any (Qt.load (by kernel_rfl) rfl rfl) ?_ | refine RW.q 7 rfl rfl (by kernel_rfl) Sub.any (Qt.load (by kernel_rfl) rfl (map_at _ _ _ (by omega))) ?_ | refine RW.q 7 rfl rfl (by kernel_rfl) Sub.any (Qt.load (by kernel_rfl) rfl (flat_cell0 _ _ _ (by intros; rfl) _ (by omega) (by rfl))) ?_ | refine RW.q 7 rfl rfl (by kernel_rfl) Sub.any (Qt.load (by kernel_rfl) rfl (flat_cell _ _ _ (by intros; rfl) _ _ (by omega) (by rfl))) ?_ | refine RW.q 7 rfl rfl (by kernel_rfl) Sub.any (Qt.load (by kernel_rfl) rfl (bytes_at _ _ (by omega))) ?_
    refine RW.q 8 rfl rfl (by kernel_rfl) Sub.any (Qt.convI (by kernel_rfl) (by kernel_rfl) rfl (wru64_u32 s)) ?_
    refine RW.q 11 rfl rfl (by kernel_rfl) Sub.any (Qt.move rfl) ?_
    refine RW.one 5 (by kernel_rfl) ?_
    refine RO.eS rfl rfl (Ef.call (Rc.number B (UInt64.ofInt d.length) 4 4 rfl (by omega)) Tryz.func50 rfl rfl rfl ?_)
    rintro _ _ ⟨rfl, rfl⟩
    try simp only [List.cons_append, List.nil_append]
    refine ⟨Sub.any, ?_⟩
    refine RW.one 9 (by kernel_rfl) ?_
    refine RO.eS rfl rfl (Ef.call (Rc.number B s.toUInt64 4 4 rfl (by omega)) Tryz.func50 rfl rfl rfl ?_)
    rintro _ _ ⟨rfl, rfl⟩
    try simp only [List.cons_append, List.nil_append]
    refine ⟨Sub.any, ?_⟩
    refine RW.q 10 rfl rfl (by kernel_rfl) Sub.any (Qt.addS rfl rfl (by simp [length_be])) ?_
    refine RW.q 12 rfl rfl (by kernel_rfl) Sub.any (Qt.addS rfl rfl (by simp [length_be]; omega)) ?_
    refine RW.q 13 rfl rfl (by kernel_rfl) Sub.any (Qt.addS rfl rfl (by simp [length_be]; omega)) ?_
    refine RW.done (by rfl) ?_
    simp only [List.drop_succ_cons, List.drop_zero, List.drop_nil]
    refine LW.q rfl (Qt.fieldAddr0 (by kernel_rfl) rfl) ?_
    refine LW.e0 rfl (Ef.store1 (by kernel_rfl) rfl rfl rfl (by first | (simp; done) | (simp; omega)) ?_)
    try simp only [List.set_cons_zero, List.set_cons_succ]
    refine LW.done ?_
    refine T.seq ?_
    refine T.region ?_
    first | refine LW.q rfl (Qt.loadAgg [_, _, _, _, _] (by kernel_rfl) rfl ⟨rfl, rfl, rfl, rfl, rfl, trivial⟩) ?_ | refine LW.q rfl (Qt.loadAgg [_, _, _, _, _] (by kernel_rfl) rfl (by exact rdl_flat _ _ _ (by intros; rfl) _ (by omega))) ?_
    refine LW.e0 rfl (Ef.store [_, _, _, _, _] (by kernel_rfl) rfl rfl rfl rfl (by simp) ?_)
    try simp only [splice, List.length_cons, List.length_nil, List.drop_succ_cons, List.cons_append, List.take_succ_cons, List.take_zero, List.drop_zero, List.nil_append, List.append_nil]
    refine LW.q rfl (Qt.assign rfl) ?_
    refine LW.done ?_
    refine T.ret ?_
    exact ⟨.inl rfl, _, _, res [_, _] rfl ⟨rvA [_, _, _, _, _] (by kernel_rfl) rfl ⟨rfl, rfl, rfl, rfl, rfl, trivial⟩, rvT rfl, trivial⟩, ⟨by unfold addW; rw [if_neg (by omega), if_neg (by omega), if_neg (by omega), hs, List.append_assoc, List.append_assoc, List.append_assoc]; rfl, rfl⟩, Sub.any⟩

theorem secW_pad {st : List UInt8} {j m : Nat} (h : (j + 1) * 256 ≤ st.length + m) : ((st ++ List.replicate m 0).take ((j + 1) * 256)).drop (j * 256) = secW st j := by
  unfold secW
  rw [List.drop_take, List.drop_append, List.take_append, List.drop_replicate, List.take_replicate, show (j + 1) * 256 - j * 256 = 256 by omega]
  congr 2
  simp only [List.length_take, List.length_drop]
  omega
set_option maxHeartbeats 1000000 in
set_option maxRecDepth 100000 in
theorem Rl.sector (B : Base) (W : Wl) (n : Nat) (i : Int) (hi : i = n) (hn : n < 4096) (hst : W.st.length < 2 ^ 31) : Fn Tryz.prog B 26 #[logV W, .int .i64 i] [] (fun v l => v = .string (strOf (secW W.st n)) ∧ l = []) := by
 subst hi
 have hz : zs.length = 256 := by simp [zs]
 refine Fn.enter2 25 Tryz.func26 rfl rfl (Nat.le_of_ble_eq_true rfl) (fun F => ?_)
 try simp only [List.cons_append, List.nil_append]
 refine T.seq ?_
 refine T.region ?_
 refine LW.e rfl (Ef.box [_, _, _, _, _] rfl rfl ?_)
 intro g2
 refine LW.q rfl (Qt.assign rfl) ?_
 refine LW.done ?_
 refine T.seq ?_
 refine T.region ?_
 refine LW.q rfl (Qt.fieldAddr0 (by kernel_rfl) rfl) ?_
 first | refine LW.q rfl (Qt.load (by kernel_rfl) rfl rfl) ?_ | refine LW.q rfl (Qt.load (by kernel_rfl) rfl (map_at _ _ _ (by omega))) ?_ | refine LW.q rfl (Qt.load (by kernel_rfl) rfl (flat_cell0 _ _ _ (by intros; rfl) _ (by omega) (by rfl))) ?_ | refine LW.q rfl (Qt.load (by kernel_rfl) rfl (flat_cell _ _ _ (by intros; rfl) _ _ (by omega) (by rfl))) ?_ | refine LW.q rfl (Qt.load (by kernel_rfl) rfl (bytes_at _ _ (by omega))) ?_
 refine LW.q rfl (Qt.assign rfl) ?_
 refine LW.done ?_
 refine T.seq ?_
 refine T.block ?_
 refine T.loop (fun mz fz lz => ∃ (f0 : Fr) (m : Nat) (s : List UInt8), (s = W.st ++ List.replicate m 0 ∧ (m = 0 ∨ W.st.length + m < (n + 1) * 256 + 256)) ∧ mz = (n + 1) * 256 - s.length ∧ fz = (upd (upd f0 1 (.int .i64 n)) 5 (.string (strOf s))) ∧ lz = F) ?_ ?_
 · refine ⟨_, _, ⟨_, 0, W.st, ⟨by simp, .inl rfl⟩, rfl, (updS rfl (updS rfl rfl)), rfl⟩, Sub.any⟩
 ·
  rintro mz fz lz ⟨f0, m, s, ⟨hs, hm⟩, hmz, rfl, rfl⟩
  subst mz
  try simp only [List.cons_append, List.nil_append]
  have hsl : s.length = W.st.length + m := by rw [hs]; simp
  refine T.seq ?_
  refine T.seq ?_
  refine T.region ?_
  refine LW.q rfl (Qt.move rfl) ?_
  first | refine LW.q rfl (Qt.lenSt (by kernel_rfl) rfl) ?_ | refine LW.q rfl (Qt.lenS (by kernel_rfl) rfl) ?_
  refine LW.q rfl (Qt.move rfl) ?_
  refine LW.q rfl (Qt.add rfl rfl (wr64 (by omega) (by omega))) ?_
  refine LW.q rfl (Qt.mul rfl rfl (wr64 (by omega) (by omega))) ?_
  refine LW.q rfl (Qt.lss rfl rfl) ?_
  refine LW.done ?_
  refine T.condP rfl (fun hlt => ?_) (fun hlt => ?_)
  ·
   refine T.skip ?_
   refine T.block ?_
   refine T.region ?_
   refine LW.q rfl (Qt.move rfl) ?_
   refine LW.e rfl (Ef.make 256 (.int .u8 0) 1 Cd.elemB (by kernel_rfl) rfl rfl rfl rfl (by omega) (by unfold maxLen; omega) ?_)
   rintro g15
   try simp only [List.cons_append, List.nil_append]
   rw [made_zs]
   refine LW.q rfl (Qt.str zs (by kernel_rfl) (by kernel_rfl) rfl (fun _ ho => ho.reads_row hz)) ?_
   refine LW.q rfl (Qt.addS rfl rfl (by rw [hz]; omega)) ?_
   refine LW.q rfl (Qt.assign rfl) ?_
   refine LW.done ?_
   refine ⟨_, ?_, _, ⟨_, m + 256, s ++ zs, ⟨by rw [hs, List.append_assoc, show zs = List.replicate 256 0 from rfl, List.replicate_append_replicate], by omega⟩, rfl, (updS rfl (updS rfl rfl)), rfl⟩, Sub.any⟩
   first | omega | (simp; omega)
  ·
   refine T.exit ?_
   refine T.seq ?_
   refine T.region ?_
   refine LW.q rfl (Qt.move rfl) ?_
   refine LW.q rfl (Qt.move rfl) ?_
   refine LW.q rfl (Qt.mul rfl rfl (wr64 (by omega) (by omega))) ?_
   refine LW.q rfl (Qt.move rfl) ?_
   refine LW.q rfl (Qt.add rfl rfl (wr64 (by omega) (by omega))) ?_
   refine LW.q rfl (Qt.mul rfl rfl (wr64 (by omega) (by omega))) ?_
   refine LW.q rfl (Qt.sliceS (n * 256) ((n + 1) * 256) (secW W.st n) (by kernel_rfl) rfl rfl rfl (by omega) (by omega) (by omega) (by omega) (by rw [hs]; exact secW_pad (by omega))) ?_
   refine LW.q rfl (Qt.assign rfl) ?_
   refine LW.done ?_
   refine T.ret ?_
   exact ⟨.inl rfl, _, _, res [_] rfl ⟨rvT rfl, trivial⟩, ⟨rfl, rfl⟩, Sub.any⟩
end Go.Proofs.YtegohgaccmkigaaGreatDoor

/- The document's log (annalsref05): Force. Conditions: sizes. -/
set_option linter.unusedSimpArgs false
set_option linter.unusedVariables false
namespace Go.Proofs.YtegohgaccmkigaaGreatDoor
open Go.RowKit

/-- What the document's flush writes, sector by sector. -/
def docLays (W : Wl) : DD → Nat → Nat → DD
  | D, _, 0 => D
  | D, n, k + 1 => docLays W (if W.dur < (n + 1) * 256 ∧ n * 256 < W.st.length then D.write (W.first + n) (secW W.st n) else D) (n + 1) k
theorem docLays_add (W : Wl) : ∀ (k1 k2 n : Nat) (D : DD), docLays W D n (k1 + k2) = docLays W (docLays W D n k1) (n + k1) k2
  | 0, k2, n, D => by rw [Nat.zero_add]; rfl
  | k1 + 1, k2, n, D => by
    rw [show k1 + 1 + k2 = (k1 + k2) + 1 by omega, docLays, docLays_add W k1 k2, docLays, show n + 1 + k1 = n + (k1 + 1) by omega]
theorem docLays_skip (W : Wl) : ∀ (k n : Nat) (D : DD), (∀ j, n ≤ j → j < n + k → ¬ (W.dur < (j + 1) * 256 ∧ j * 256 < W.st.length)) → docLays W D n k = D
  | 0, _, _, _ => rfl
  | k + 1, n, D, h => by
    rw [docLays, if_neg (h n (by omega) (by omega))]
    exact docLays_skip W k (n + 1) D (fun j h1 h2 => h j (by omega) (by omega))
theorem docLays_all (W : Wl) : ∀ (k n : Nat) (D : DD), (∀ j, n ≤ j → j < n + k → (W.dur < (j + 1) * 256 ∧ j * 256 < W.st.length)) → docLays W D n k = laysW W D n k
  | 0, _, _, _ => rfl
  | k + 1, n, D, h => by
    rw [docLays, if_pos (h n (by omega) (by omega)), laysW]
    exact docLays_all W k (n + 1) _ (fun j h1 h2 => h j (by omega) (by omega))
set_option maxRecDepth 100000 in
theorem docLays_eq (W : Wl) (D : DD) (hst : W.st.length ≤ W.count * 256) (hdur : W.dur ≤ W.st.length) : docLays W D 0 W.count = laysW W D (W.dur / 256) (flushN W) := by
  have e : W.count = W.dur / 256 + (flushN W + (W.count - (W.dur / 256 + flushN W))) := by unfold flushN; omega
  rw [e, docLays_add, docLays_add, docLays_skip W (W.dur / 256) 0 D (fun j h1 h2 => by omega), Nat.zero_add, docLays_all W (flushN W) (W.dur / 256) D (fun j h1 h2 => by unfold flushN at h2; omega), docLays_skip]
  intro j h1 h2
  unfold flushN at h1
  omega

set_option maxRecDepth 100000 in
theorem Rl.force_no (B : Base) (W : Wl) (p q : Option Addr) (a c N m : Nat) (mark : Int) (hst : W.st.length < 2 ^ 31) (h : mark ≤ W.dur ∨ W.dur = W.st.length) :
  Fn Tryz.prog B 72 #[.agg #[.slice p N a, .slice q m c], logV W, .int .i64 mark] [] (fun v l => v = .tuple #[.agg #[.slice p N a, .slice q m c], logV W] ∧ l = []) := by
 refine Fn.enter3 63 Tryz.func72 rfl rfl (Nat.le_of_ble_eq_true rfl) (fun F => ?_)
 try simp only [List.cons_append, List.nil_append]
 refine T.seq ?_
 refine T.region ?_
 refine LW.e rfl (Ef.box [_, _] rfl rfl ?_)
 intro g3
 refine LW.e rfl (Ef.box [_, _, _, _, _] rfl rfl ?_)
 intro g4
 refine LW.e rfl (Ef.alloc [.slice none 0 0, .slice none 0 0] (by unfold zeroB; kernel_rfl) ?_)
 intro g6
 refine LW.e rfl (Ef.alloc [.string .empty, .int .u32 0, .int .i64 0, .int .i64 0, .int .i64 0] (by unfold zeroB; kernel_rfl) ?_)
 intro g7
 refine LW.done ?_
 refine T.seq ?_
 refine T.seq ?_
 refine T.region ?_
 refine LW.q rfl (Qt.move rfl) ?_
 refine LW.q rfl (Qt.fieldAddr (off := 2) (by kernel_rfl) rfl) ?_
 first | refine LW.q rfl (Qt.load (by kernel_rfl) rfl rfl) ?_ | refine LW.q rfl (Qt.load (by kernel_rfl) rfl (map_at _ _ _ (by omega))) ?_ | refine LW.q rfl (Qt.load (by kernel_rfl) rfl (flat_cell0 _ _ _ (by intros; rfl) _ (by omega) (by rfl))) ?_ | refine LW.q rfl (Qt.load (by kernel_rfl) rfl (flat_cell _ _ _ (by intros; rfl) _ _ (by omega) (by rfl))) ?_ | refine LW.q rfl (Qt.load (by kernel_rfl) rfl (bytes_at _ _ (by omega))) ?_
 refine LW.q rfl (Qt.leq rfl rfl) ?_
 refine LW.q rfl (Qt.move rfl) ?_
 refine LW.split (t := 13) rfl (fun h1 => ?_) (fun h1 => ?_)
 ·
  try replace h1 := of_decide_eq_true h1
  refine LW.s rfl ?_
  refine LW.s rfl ?_
  refine LW.s rfl ?_
  refine LW.s rfl ?_
  refine LW.s rfl ?_
  refine LW.s rfl ?_
  refine LW.q rfl (Qt.pick rfl rfl) ?_
  refine LW.done ?_
  first | refine T.condT rfl ?_ | refine T.condPT rfl (by omega) ?_ | refine T.condBT rfl (by omega) ?_
  refine T.seq ?_
  refine T.draw 3 ([blk g3 [.slice p N a, .slice q m c] 30, blk g4 [.string (strOf W.st), .int .u32 W.sum.toNat, .int .i64 W.dur, .int .i64 W.first, .int .i64 W.count] 35]) (by kernel_rfl) (Nat.le_of_ble_eq_true rfl) (by kernel_rfl) ?_
  first | refine RW.q 0 rfl rfl (by kernel_rfl) Sub.any (Qt.loadAgg [_, _] (by kernel_rfl) rfl ⟨rfl, rfl, trivial⟩) ?_ | refine RW.q 0 rfl rfl (by kernel_rfl) Sub.any (Qt.loadAgg [_, _] (by kernel_rfl) rfl (by exact rdl_flat _ _ _ (by intros; rfl) _ (by omega))) ?_
  first | refine RW.q 1 rfl rfl (by kernel_rfl) Sub.any (Qt.loadAgg [_, _, _, _, _] (by kernel_rfl) rfl ⟨rfl, rfl, rfl, rfl, rfl, trivial⟩) ?_ | refine RW.q 1 rfl rfl (by kernel_rfl) Sub.any (Qt.loadAgg [_, _, _, _, _] (by kernel_rfl) rfl (by exact rdl_flat _ _ _ (by intros; rfl) _ (by omega))) ?_
  refine RW.one 2 (by kernel_rfl) ?_
  refine RO.eS0 rfl rfl (Ef.store [_, _] (by kernel_rfl) rfl rfl rfl rfl (by simp) ?_)
  try simp only [splice, List.length_cons, List.length_nil, List.drop_succ_cons, List.cons_append, List.take_succ_cons, List.take_zero, List.drop_zero, List.nil_append, List.append_nil]
  refine ⟨Sub.any, ?_⟩
  refine RW.done (by rfl) ?_
  simp only [List.drop_succ_cons, List.drop_zero, List.drop_nil]
  refine LW.e0 rfl (Ef.store [_, _, _, _, _] (by kernel_rfl) rfl rfl rfl rfl (by simp) ?_)
  try simp only [splice, List.length_cons, List.length_nil, List.drop_succ_cons, List.cons_append, List.take_succ_cons, List.take_zero, List.drop_zero, List.nil_append, List.append_nil]
  refine LW.done ?_
  refine T.ret ?_
  exact ⟨.inl rfl, _, _, res [_, _] rfl ⟨rvA [_, _] (by kernel_rfl) rfl ⟨rfl, rfl, trivial⟩, rvA [_, _, _, _, _] (by kernel_rfl) rfl ⟨rfl, rfl, rfl, rfl, rfl, trivial⟩, trivial⟩, ⟨rfl, rfl⟩, Sub.any⟩
 ·
  try replace h1 := of_decide_eq_false h1
  refine LW.q rfl (Qt.fieldAddr (off := 2) (by kernel_rfl) rfl) ?_
  first | refine LW.q rfl (Qt.load (by kernel_rfl) rfl rfl) ?_ | refine LW.q rfl (Qt.load (by kernel_rfl) rfl (map_at _ _ _ (by omega))) ?_ | refine LW.q rfl (Qt.load (by kernel_rfl) rfl (flat_cell0 _ _ _ (by intros; rfl) _ (by omega) (by rfl))) ?_ | refine LW.q rfl (Qt.load (by kernel_rfl) rfl (flat_cell _ _ _ (by intros; rfl) _ _ (by omega) (by rfl))) ?_ | refine LW.q rfl (Qt.load (by kernel_rfl) rfl (bytes_at _ _ (by omega))) ?_
  refine LW.q rfl (Qt.fieldAddr0 (by kernel_rfl) rfl) ?_
  first | refine LW.q rfl (Qt.load (by kernel_rfl) rfl rfl) ?_ | refine LW.q rfl (Qt.load (by kernel_rfl) rfl (map_at _ _ _ (by omega))) ?_ | refine LW.q rfl (Qt.load (by kernel_rfl) rfl (flat_cell0 _ _ _ (by intros; rfl) _ (by omega) (by rfl))) ?_ | refine LW.q rfl (Qt.load (by kernel_rfl) rfl (flat_cell _ _ _ (by intros; rfl) _ _ (by omega) (by rfl))) ?_ | refine LW.q rfl (Qt.load (by kernel_rfl) rfl (bytes_at _ _ (by omega))) ?_
  first | refine LW.q rfl (Qt.lenSt (by kernel_rfl) rfl) ?_ | refine LW.q rfl (Qt.lenS (by kernel_rfl) rfl) ?_
  refine LW.q rfl (Qt.eql rfl rfl) ?_
  refine LW.q rfl (Qt.pick rfl rfl) ?_
  refine LW.done ?_
  first | refine T.condT rfl ?_ | refine T.condPT rfl (by omega) ?_ | refine T.condBT rfl (by omega) ?_
  refine T.seq ?_
  refine T.draw 3 ([blk g3 [.slice p N a, .slice q m c] 30, blk g4 [.string (strOf W.st), .int .u32 W.sum.toNat, .int .i64 W.dur, .int .i64 W.first, .int .i64 W.count] 35]) (by kernel_rfl) (Nat.le_of_ble_eq_true rfl) (by kernel_rfl) ?_
  first | refine RW.q 0 rfl rfl (by kernel_rfl) Sub.any (Qt.loadAgg [_, _] (by kernel_rfl) rfl ⟨rfl, rfl, trivial⟩) ?_ | refine RW.q 0 rfl rfl (by kernel_rfl) Sub.any (Qt.loadAgg [_, _] (by kernel_rfl) rfl (by exact rdl_flat _ _ _ (by intros; rfl) _ (by omega))) ?_
  first | refine RW.q 1 rfl rfl (by kernel_rfl) Sub.any (Qt.loadAgg [_, _, _, _, _] (by kernel_rfl) rfl ⟨rfl, rfl, rfl, rfl, rfl, trivial⟩) ?_ | refine RW.q 1 rfl rfl (by kernel_rfl) Sub.any (Qt.loadAgg [_, _, _, _, _] (by kernel_rfl) rfl (by exact rdl_flat _ _ _ (by intros; rfl) _ (by omega))) ?_
  refine RW.one 2 (by kernel_rfl) ?_
  refine RO.eS0 rfl rfl (Ef.store [_, _] (by kernel_rfl) rfl rfl rfl rfl (by simp) ?_)
  try simp only [splice, List.length_cons, List.length_nil, List.drop_succ_cons, List.cons_append, List.take_succ_cons, List.take_zero, List.drop_zero, List.nil_append, List.append_nil]
  refine ⟨Sub.any, ?_⟩
  refine RW.done (by rfl) ?_
  simp only [List.drop_succ_cons, List.drop_zero, List.drop_nil]
  refine LW.e0 rfl (Ef.store [_, _, _, _, _] (by kernel_rfl) rfl rfl rfl rfl (by simp) ?_)
  try simp only [splice, List.length_cons, List.length_nil, List.drop_succ_cons, List.cons_append, List.take_succ_cons, List.take_zero, List.drop_zero, List.nil_append, List.append_nil]
  refine LW.done ?_
  refine T.ret ?_
  exact ⟨.inl rfl, _, _, res [_, _] rfl ⟨rvA [_, _] (by kernel_rfl) rfl ⟨rfl, rfl, trivial⟩, rvA [_, _, _, _, _] (by kernel_rfl) rfl ⟨rfl, rfl, rfl, rfl, rfl, trivial⟩, trivial⟩, ⟨rfl, rfl⟩, Sub.any⟩

set_option maxHeartbeats 2000000 in
set_option maxRecDepth 100000 in
theorem Rl.force (B : Base) (W : Wl) (D : DD) (p q : Option Addr) (a c N m : Nat) (hN : D.secs.length = N) (hm : D.pend.length = m) (mark : Int) (hD : D.Ok) (hroom : m + 4096 < 2 ^ 32) (hfc : W.first + W.count ≤ N) (hst : W.st.length ≤ W.count * 256) (hdur : W.dur ≤ W.st.length) (h1 : W.dur < mark) (h2 : W.dur ≠ W.st.length) :
  Fn Tryz.prog B 72 #[.agg #[.slice p N a, .slice q m c], logV W, .int .i64 mark] [rS (.slice p N a) N D.secs, rW (.slice q m c) m D.pend]
   (fun v l => ∃ p' a', v = .tuple #[.agg #[.slice p' N a', .slice none 0 0], logV W.flushed] ∧ l = [rS (.slice p' N a') N (flushD W D).secs, rW (.slice none 0 0) 0 []]) := by
 have hN2 : N ≤ 4096 := by rw [← hN]; exact hD.max
 refine Fn.enter3 63 Tryz.func72 rfl rfl (Nat.le_of_ble_eq_true rfl) (fun F => ?_)
 try simp only [List.cons_append, List.nil_append]
 refine T.seq ?_
 refine T.region ?_
 refine LW.e rfl (Ef.box [_, _] rfl rfl ?_)
 intro g3
 refine LW.e rfl (Ef.box [_, _, _, _, _] rfl rfl ?_)
 intro g4
 refine LW.e rfl (Ef.alloc [.slice none 0 0, .slice none 0 0] (by unfold zeroB; kernel_rfl) ?_)
 intro g6
 refine LW.e rfl (Ef.alloc [.string .empty, .int .u32 0, .int .i64 0, .int .i64 0, .int .i64 0] (by unfold zeroB; kernel_rfl) ?_)
 intro g7
 refine LW.done ?_
 refine T.seq ?_
 refine T.seq ?_
 refine T.region ?_
 refine LW.q rfl (Qt.move rfl) ?_
 refine LW.q rfl (Qt.fieldAddr (off := 2) (by kernel_rfl) rfl) ?_
 first | refine LW.q rfl (Qt.load (by kernel_rfl) rfl rfl) ?_ | refine LW.q rfl (Qt.load (by kernel_rfl) rfl (map_at _ _ _ (by omega))) ?_ | refine LW.q rfl (Qt.load (by kernel_rfl) rfl (flat_cell0 _ _ _ (by intros; rfl) _ (by omega) (by rfl))) ?_ | refine LW.q rfl (Qt.load (by kernel_rfl) rfl (flat_cell _ _ _ (by intros; rfl) _ _ (by omega) (by rfl))) ?_ | refine LW.q rfl (Qt.load (by kernel_rfl) rfl (bytes_at _ _ (by omega))) ?_
 refine LW.q rfl (Qt.leq rfl rfl) ?_
 refine LW.q rfl (Qt.move rfl) ?_
 first | refine LW.gF (t := 13) rfl rfl ?_ | refine LW.gF (t := 13) rfl (decide_eq_false (by omega)) ?_ | refine LW.gF (t := 13) rfl (by omega) ?_
 refine LW.q rfl (Qt.fieldAddr (off := 2) (by kernel_rfl) rfl) ?_
 first | refine LW.q rfl (Qt.load (by kernel_rfl) rfl rfl) ?_ | refine LW.q rfl (Qt.load (by kernel_rfl) rfl (map_at _ _ _ (by omega))) ?_ | refine LW.q rfl (Qt.load (by kernel_rfl) rfl (flat_cell0 _ _ _ (by intros; rfl) _ (by omega) (by rfl))) ?_ | refine LW.q rfl (Qt.load (by kernel_rfl) rfl (flat_cell _ _ _ (by intros; rfl) _ _ (by omega) (by rfl))) ?_ | refine LW.q rfl (Qt.load (by kernel_rfl) rfl (bytes_at _ _ (by omega))) ?_
 refine LW.q rfl (Qt.fieldAddr0 (by kernel_rfl) rfl) ?_
 first | refine LW.q rfl (Qt.load (by kernel_rfl) rfl rfl) ?_ | refine LW.q rfl (Qt.load (by kernel_rfl) rfl (map_at _ _ _ (by omega))) ?_ | refine LW.q rfl (Qt.load (by kernel_rfl) rfl (flat_cell0 _ _ _ (by intros; rfl) _ (by omega) (by rfl))) ?_ | refine LW.q rfl (Qt.load (by kernel_rfl) rfl (flat_cell _ _ _ (by intros; rfl) _ _ (by omega) (by rfl))) ?_ | refine LW.q rfl (Qt.load (by kernel_rfl) rfl (bytes_at _ _ (by omega))) ?_
 first | refine LW.q rfl (Qt.lenSt (by kernel_rfl) rfl) ?_ | refine LW.q rfl (Qt.lenS (by kernel_rfl) rfl) ?_
 refine LW.q rfl (Qt.eql rfl rfl) ?_
 refine LW.q rfl (Qt.pick rfl rfl) ?_
 refine LW.done ?_
 first | refine T.condF rfl ?_ | refine T.condPF rfl (by omega) ?_ | refine T.condBF rfl (by omega) ?_
 refine T.skip ?_
 refine T.seq ?_
 refine T.seq ?_
 refine T.region ?_
 refine LW.q rfl (Qt.assign rfl) ?_
 refine LW.done ?_
 refine T.block ?_
 refine T.loop (fun mz fz lz => ∃ (f0 : Fr) (n : Nat) (D' : DD) (p q : Option Addr) (a c m' : Nat), (n ≤ W.count ∧ D'.Ok ∧ D'.secs.length = N ∧ D'.pend.length = m' ∧ m' ≤ m + n ∧ docLays W D' n (W.count - n) = docLays W D 0 W.count) ∧ mz = W.count - n ∧ fz = (upd (upd (upd (upd (upd f0 3 (.pointer (some ⟨g3, 0, none⟩))) 4 (.pointer (some ⟨g4, 0, none⟩))) 6 (.pointer (some ⟨g6, 0, none⟩))) 7 (.pointer (some ⟨g7, 0, none⟩))) 8 (.int .i64 n)) ∧ lz = rS (.slice p N a) N D'.secs :: rW (.slice q m' c) m' D'.pend :: blk g3 [.slice p N a, .slice q m' c] 30 :: blk g4 [.string (strOf W.st), .int .u32 W.sum.toNat, .int .i64 W.dur, .int .i64 W.first, .int .i64 W.count] 35 :: blk g6 [.slice none 0 0, .slice none 0 0] 30 :: blk g7 [.string ByteArray.empty, .int .u32 0, .int .i64 0, .int .i64 0, .int .i64 0] 35 :: F) ?_ ?_
 · refine ⟨_, _, ⟨_, 0, D, p, q, a, c, m, ⟨Nat.zero_le _, hD, hN, hm, by omega, by rw [Nat.sub_zero]⟩, rfl, (updS rfl (updS rfl (updS rfl (updS rfl (updS rfl rfl))))), rfl⟩, Sub.any⟩
 ·
  rintro mz fz lz ⟨f0, n, D', p, q, a, c, m', ⟨hn, ho, hsl, hpl, hpm, hlay⟩, hmz, rfl, rfl⟩
  subst mz
  try simp only [List.cons_append, List.nil_append]
  refine T.seq ?_
  refine T.seq ?_
  refine T.region ?_
  refine LW.q rfl (Qt.move rfl) ?_
  refine LW.q rfl (Qt.fieldAddr (off := 4) (by kernel_rfl) rfl) ?_
  first | refine LW.q rfl (Qt.load (by kernel_rfl) rfl rfl) ?_ | refine LW.q rfl (Qt.load (by kernel_rfl) rfl (map_at _ _ _ (by omega))) ?_ | refine LW.q rfl (Qt.load (by kernel_rfl) rfl (flat_cell0 _ _ _ (by intros; rfl) _ (by omega) (by rfl))) ?_ | refine LW.q rfl (Qt.load (by kernel_rfl) rfl (flat_cell _ _ _ (by intros; rfl) _ _ (by omega) (by rfl))) ?_ | refine LW.q rfl (Qt.load (by kernel_rfl) rfl (bytes_at _ _ (by omega))) ?_
  refine LW.q rfl (Qt.lss rfl rfl) ?_
  refine LW.done ?_
  refine T.condP rfl (fun hlt => ?_) (fun hlt => ?_)
  ·
   have hstep : docLays W D' n (W.count - n) = docLays W (if W.dur < (n + 1) * 256 ∧ n * 256 < W.st.length then D'.write (W.first + n) (secW W.st n) else D') (n + 1) (W.count - (n + 1)) := by rw [show W.count - n = (W.count - (n + 1)) + 1 by omega, docLays]
   refine T.skip ?_
   refine T.seq ?_
   refine T.block ?_
   refine T.seq ?_
   refine T.region ?_
   refine LW.q rfl (Qt.move rfl) ?_
   refine LW.q rfl (Qt.add rfl rfl (wr64 (by omega) (by omega))) ?_
   refine LW.q rfl (Qt.mul rfl rfl (wr64 (by omega) (by omega))) ?_
   refine LW.q rfl (Qt.fieldAddr (off := 2) (by kernel_rfl) rfl) ?_
   first | refine LW.q rfl (Qt.load (by kernel_rfl) rfl rfl) ?_ | refine LW.q rfl (Qt.load (by kernel_rfl) rfl (map_at _ _ _ (by omega))) ?_ | refine LW.q rfl (Qt.load (by kernel_rfl) rfl (flat_cell0 _ _ _ (by intros; rfl) _ (by omega) (by rfl))) ?_ | refine LW.q rfl (Qt.load (by kernel_rfl) rfl (flat_cell _ _ _ (by intros; rfl) _ _ (by omega) (by rfl))) ?_ | refine LW.q rfl (Qt.load (by kernel_rfl) rfl (bytes_at _ _ (by omega))) ?_
   refine LW.q rfl (Qt.gtr rfl rfl) ?_
   refine LW.q rfl (Qt.move rfl) ?_
   refine LW.split (t := 35) rfl (fun hc1 => ?_) (fun hc1 => ?_)
   ·
    try replace hc1 := of_decide_eq_true hc1
    refine LW.q rfl (Qt.move rfl) ?_
    refine LW.q rfl (Qt.mul rfl rfl (wr64 (by omega) (by omega))) ?_
    refine LW.q rfl (Qt.fieldAddr0 (by kernel_rfl) rfl) ?_
    first | refine LW.q rfl (Qt.load (by kernel_rfl) rfl rfl) ?_ | refine LW.q rfl (Qt.load (by kernel_rfl) rfl (map_at _ _ _ (by omega))) ?_ | refine LW.q rfl (Qt.load (by kernel_rfl) rfl (flat_cell0 _ _ _ (by intros; rfl) _ (by omega) (by rfl))) ?_ | refine LW.q rfl (Qt.load (by kernel_rfl) rfl (flat_cell _ _ _ (by intros; rfl) _ _ (by omega) (by rfl))) ?_ | refine LW.q rfl (Qt.load (by kernel_rfl) rfl (bytes_at _ _ (by omega))) ?_
    first | refine LW.q rfl (Qt.lenSt (by kernel_rfl) rfl) ?_ | refine LW.q rfl (Qt.lenS (by kernel_rfl) rfl) ?_
    refine LW.q rfl (Qt.lss rfl rfl) ?_
    refine LW.q rfl (Qt.pick rfl rfl) ?_
    refine LW.done ?_
    refine T.condP rfl (fun hc2 => ?_) (fun hc2 => ?_)
    ·
     rw [if_pos ⟨by omega, by omega⟩] at hstep
     refine T.drawBl 13 (some g3) (by kernel_rfl) (Nat.le_of_ble_eq_true rfl) (by kernel_rfl) ?_
     refine RW.q 1 rfl rfl (by kernel_rfl) Sub.any (Qt.fieldAddr (off := 3) (by kernel_rfl) rfl) ?_
     first | refine RW.q 2 rfl rfl (by kernel_rfl) Sub.any (Qt.load (by kernel_rfl) rfl rfl) ?_ | refine RW.q 2 rfl rfl (by kernel_rfl) Sub.any (Qt.load (by kernel_rfl) rfl (map_at _ _ _ (by omega))) ?_ | refine RW.q 2 rfl rfl (by kernel_rfl) Sub.any (Qt.load (by kernel_rfl) rfl (flat_cell0 _ _ _ (by intros; rfl) _ (by omega) (by rfl))) ?_ | refine RW.q 2 rfl rfl (by kernel_rfl) Sub.any (Qt.load (by kernel_rfl) rfl (flat_cell _ _ _ (by intros; rfl) _ _ (by omega) (by rfl))) ?_ | refine RW.q 2 rfl rfl (by kernel_rfl) Sub.any (Qt.load (by kernel_rfl) rfl (bytes_at _ _ (by omega))) ?_
     refine RW.q 3 rfl rfl (by kernel_rfl) Sub.any (Qt.move rfl) ?_
     refine RW.q 4 rfl rfl (by kernel_rfl) Sub.any (Qt.add rfl rfl (wr64 (by omega) (by omega))) ?_
     first | refine RW.q 5 rfl rfl (by kernel_rfl) Sub.any (Qt.loadAgg [_, _, _, _, _] (by kernel_rfl) rfl ⟨rfl, rfl, rfl, rfl, rfl, trivial⟩) ?_ | refine RW.q 5 rfl rfl (by kernel_rfl) Sub.any (Qt.loadAgg [_, _, _, _, _] (by kernel_rfl) rfl (by exact rdl_flat _ _ _ (by intros; rfl) _ (by omega))) ?_
     refine RW.q 6 rfl rfl (by kernel_rfl) Sub.any (Qt.move rfl) ?_
     refine RW.all [0, 7] (by kernel_rfl) (List.forall_mem_cons.2 ⟨?_, List.forall_mem_cons.2 ⟨?_, List.forall_mem_nil _⟩⟩)
     ·
      first | refine RO.eS rfl rfl (Ef.qt (Qt.loadAgg [_, _] (by kernel_rfl) rfl ⟨rfl, rfl, trivial⟩) ?_) | refine RO.eS rfl rfl (Ef.qt (Qt.loadAgg [_, _] (by kernel_rfl) rfl (by exact rdl_flat _ _ _ (by intros; rfl) _ (by omega))) ?_)
      refine ⟨Sub.any, ?_⟩
      refine RW.one 7 (by kernel_rfl) ?_
      refine RO.eS rfl rfl (Ef.call (Rl.sector B W n n rfl (by omega) (by omega)) Tryz.func26 rfl rfl rfl ?_)
      rintro _ _ ⟨rfl, rfl⟩
      try simp only [List.cons_append, List.nil_append]
      refine ⟨Sub.any, ?_⟩
      refine RW.one 8 (by kernel_rfl) ?_
      refine RO.eS rfl rfl (Ef.call (Rf.put B p q a c N m' (W.first + n) (W.first + n) (by omega) (secW W.st n) D'.secs D'.pend (by omega) (by omega) (by omega) (length_secW _ _)) Tryz.func27 rfl rfl rfl ?_)
      rintro _ _ ⟨p1, a1, q1, c1, rfl, rfl⟩
      try simp only [List.cons_append, List.nil_append]
      refine ⟨Sub.any, ?_⟩
      refine RW.q 9 rfl rfl (by kernel_rfl) Sub.any (Qt.move rfl) ?_
      refine RW.q 10 rfl rfl (by kernel_rfl) Sub.any (Qt.extract rfl rfl) ?_
      refine RW.q 11 rfl rfl (by kernel_rfl) Sub.any (Qt.extract rfl rfl) ?_
      refine RW.one 12 (by kernel_rfl) ?_
      refine RO.eS0 rfl rfl (Ef.store [_, _] (by kernel_rfl) rfl rfl rfl rfl (by simp) ?_)
      try simp only [splice, List.length_cons, List.length_nil, List.drop_succ_cons, List.cons_append, List.take_succ_cons, List.take_zero, List.drop_zero, List.nil_append, List.append_nil]
      refine ⟨Sub.any, ?_⟩
      refine RW.done (by rfl) ?_
      simp only [List.drop_succ_cons, List.drop_zero, List.drop_nil]
      refine LW.done ?_
      refine T.region ?_
      refine LW.q rfl (Qt.move rfl) ?_
      refine LW.q rfl (Qt.add rfl rfl (wr64 (by omega) (by omega))) ?_
      refine LW.q rfl (Qt.assign rfl) ?_
      refine LW.done ?_
      refine ⟨_, ?_, _, ⟨_, n + 1, ⟨D'.secs, D'.pend ++ [(W.first + n, secW W.st n)]⟩, p1, q1, a1, c1, m' + 1, ⟨by omega, ho.wr2 _ _ (by omega) (length_secW _ _), hsl, by simp [hpl], by omega, by rw [hstep] at hlay; exact hlay⟩, rfl, (updS rfl (updS rfl (updS rfl (updS rfl (updS rfl rfl))))), rfl⟩, Sub.any⟩
      first | omega | (simp; omega)
     ·
      refine RO.eS rfl rfl (Ef.call (Rl.sector B W n n rfl (by omega) (by omega)) Tryz.func26 rfl rfl rfl ?_)
      rintro _ _ ⟨rfl, rfl⟩
      try simp only [List.cons_append, List.nil_append]
      refine ⟨Sub.any, ?_⟩
      refine RW.one 0 (by kernel_rfl) ?_
      first | refine RO.eS rfl rfl (Ef.qt (Qt.loadAgg [_, _] (by kernel_rfl) rfl ⟨rfl, rfl, trivial⟩) ?_) | refine RO.eS rfl rfl (Ef.qt (Qt.loadAgg [_, _] (by kernel_rfl) rfl (by exact rdl_flat _ _ _ (by intros; rfl) _ (by omega))) ?_)
      refine ⟨Sub.any, ?_⟩
      refine RW.one 8 (by kernel_rfl) ?_
      refine RO.eS rfl rfl (Ef.call (Rf.put B p q a c N m' (W.first + n) (W.first + n) (by omega) (secW W.st n) D'.secs D'.pend (by omega) (by omega) (by omega) (length_secW _ _)) Tryz.func27 rfl rfl rfl ?_)
      rintro _ _ ⟨p1, a1, q1, c1, rfl, rfl⟩
      try simp only [List.cons_append, List.nil_append]
      refine ⟨Sub.any, ?_⟩
      refine RW.q 9 rfl rfl (by kernel_rfl) Sub.any (Qt.move rfl) ?_
      refine RW.q 10 rfl rfl (by kernel_rfl) Sub.any (Qt.extract rfl rfl) ?_
      refine RW.q 11 rfl rfl (by kernel_rfl) Sub.any (Qt.extract rfl rfl) ?_
      refine RW.one 12 (by kernel_rfl) ?_
      refine RO.eS0 rfl rfl (Ef.store [_, _] (by kernel_rfl) rfl rfl rfl rfl (by simp) ?_)
      try simp only [splice, List.length_cons, List.length_nil, List.drop_succ_cons, List.cons_append, List.take_succ_cons, List.take_zero, List.drop_zero, List.nil_append, List.append_nil]
      refine ⟨Sub.any, ?_⟩
      refine RW.done (by rfl) ?_
      simp only [List.drop_succ_cons, List.drop_zero, List.drop_nil]
      refine LW.done ?_
      refine T.region ?_
      refine LW.q rfl (Qt.move rfl) ?_
      refine LW.q rfl (Qt.add rfl rfl (wr64 (by omega) (by omega))) ?_
      refine LW.q rfl (Qt.assign rfl) ?_
      refine LW.done ?_
      refine ⟨_, ?_, _, ⟨_, n + 1, ⟨D'.secs, D'.pend ++ [(W.first + n, secW W.st n)]⟩, p1, q1, a1, c1, m' + 1, ⟨by omega, ho.wr2 _ _ (by omega) (length_secW _ _), hsl, by simp [hpl], by omega, by rw [hstep] at hlay; exact hlay⟩, rfl, (updS rfl (updS rfl (updS rfl (updS rfl (updS rfl rfl))))), rfl⟩, Sub.any⟩
      first | omega | (simp; omega)
    ·
     rw [if_neg (by omega)] at hstep
     refine T.skip ?_
     refine T.region ?_
     refine LW.q rfl (Qt.move rfl) ?_
     refine LW.q rfl (Qt.add rfl rfl (wr64 (by omega) (by omega))) ?_
     refine LW.q rfl (Qt.assign rfl) ?_
     refine LW.done ?_
     refine ⟨_, ?_, _, ⟨_, n + 1, D', p, q, a, c, m', ⟨by omega, ho, hsl, hpl, by omega, by rw [← hstep]; exact hlay⟩, rfl, (updS rfl (updS rfl (updS rfl (updS rfl (updS rfl rfl))))), rfl⟩, Sub.any⟩
     first | omega | (simp; omega)
   ·
    try replace hc1 := of_decide_eq_false hc1
    refine LW.s rfl ?_
    refine LW.s rfl ?_
    refine LW.s rfl ?_
    refine LW.s rfl ?_
    refine LW.s rfl ?_
    refine LW.s rfl ?_
    refine LW.q rfl (Qt.pick rfl rfl) ?_
    refine LW.done ?_
    first | refine T.condF rfl ?_ | refine T.condPF rfl (by omega) ?_ | refine T.condBF rfl (by omega) ?_
    rw [if_neg (by omega)] at hstep
    refine T.skip ?_
    refine T.region ?_
    refine LW.q rfl (Qt.move rfl) ?_
    refine LW.q rfl (Qt.add rfl rfl (wr64 (by omega) (by omega))) ?_
    refine LW.q rfl (Qt.assign rfl) ?_
    refine LW.done ?_
    refine ⟨_, ?_, _, ⟨_, n + 1, D', p, q, a, c, m', ⟨by omega, ho, hsl, hpl, by omega, by rw [← hstep]; exact hlay⟩, rfl, (updS rfl (updS rfl (updS rfl (updS rfl (updS rfl rfl))))), rfl⟩, Sub.any⟩
    first | omega | (simp; omega)
  ·
   obtain rfl : n = W.count := by omega
   rw [Nat.sub_self, docLays_eq W D hst hdur] at hlay
   refine T.exit ?_
   refine T.seq ?_
   refine T.region ?_
   first | refine LW.q rfl (Qt.loadAgg [_, _] (by kernel_rfl) rfl ⟨rfl, rfl, trivial⟩) ?_ | refine LW.q rfl (Qt.loadAgg [_, _] (by kernel_rfl) rfl (by exact rdl_flat _ _ _ (by intros; rfl) _ (by omega))) ?_
   refine LW.e rfl (Ef.call (Rf.crash B p q a c N m' true (.slice none 0 0) [] 0 0 D'.secs D'.pend ho (by omega) ⟨none, 0, rfl, .inl rfl⟩) Tryz.func28 rfl rfl rfl ?_)
   rintro _ _ ⟨p1, a1, rfl, rfl⟩
   try simp only [List.cons_append, List.nil_append]
   have hsec : DD.lays ⟨D'.secs, D'.pend⟩ (fun i => some (rAmt true [] 0 0 i)) m' = (flushD W D).secs := by rw [lays_all, flushD, ← hlay, ← hpl]; rfl
   rw [hsec]
   refine LW.e0 rfl (Ef.store [_, _] (by kernel_rfl) rfl rfl rfl rfl (by simp) ?_)
   try simp only [splice, List.length_cons, List.length_nil, List.drop_succ_cons, List.cons_append, List.take_succ_cons, List.take_zero, List.drop_zero, List.nil_append, List.append_nil]
   refine LW.done ?_
   refine T.seq ?_
   refine T.region ?_
   refine LW.q rfl (Qt.fieldAddr0 (by kernel_rfl) rfl) ?_
   first | refine LW.q rfl (Qt.load (by kernel_rfl) rfl rfl) ?_ | refine LW.q rfl (Qt.load (by kernel_rfl) rfl (map_at _ _ _ (by omega))) ?_ | refine LW.q rfl (Qt.load (by kernel_rfl) rfl (flat_cell0 _ _ _ (by intros; rfl) _ (by omega) (by rfl))) ?_ | refine LW.q rfl (Qt.load (by kernel_rfl) rfl (flat_cell _ _ _ (by intros; rfl) _ _ (by omega) (by rfl))) ?_ | refine LW.q rfl (Qt.load (by kernel_rfl) rfl (bytes_at _ _ (by omega))) ?_
   first | refine LW.q rfl (Qt.lenSt (by kernel_rfl) rfl) ?_ | refine LW.q rfl (Qt.lenS (by kernel_rfl) rfl) ?_
   refine LW.q rfl (Qt.fieldAddr (off := 2) (by kernel_rfl) rfl) ?_
   refine LW.e0 rfl (Ef.store1 (by kernel_rfl) rfl rfl rfl (by first | (simp; done) | (simp; omega)) ?_)
   try simp only [List.set_cons_zero, List.set_cons_succ]
   refine LW.done ?_
   refine T.seq ?_
   refine T.draw 3 ([blk g3 [.slice p1 N a1, .slice none 0 0] 30, blk g4 [.string (strOf W.st), .int .u32 W.sum.toNat, .int .i64 W.st.length, .int .i64 W.first, .int .i64 W.count] 35]) (by kernel_rfl) (Nat.le_of_ble_eq_true rfl) (by kernel_rfl) ?_
   first | refine RW.q 0 rfl rfl (by kernel_rfl) Sub.any (Qt.loadAgg [_, _] (by kernel_rfl) rfl ⟨rfl, rfl, trivial⟩) ?_ | refine RW.q 0 rfl rfl (by kernel_rfl) Sub.any (Qt.loadAgg [_, _] (by kernel_rfl) rfl (by exact rdl_flat _ _ _ (by intros; rfl) _ (by omega))) ?_
   first | refine RW.q 1 rfl rfl (by kernel_rfl) Sub.any (Qt.loadAgg [_, _, _, _, _] (by kernel_rfl) rfl ⟨rfl, rfl, rfl, rfl, rfl, trivial⟩) ?_ | refine RW.q 1 rfl rfl (by kernel_rfl) Sub.any (Qt.loadAgg [_, _, _, _, _] (by kernel_rfl) rfl (by exact rdl_flat _ _ _ (by intros; rfl) _ (by omega))) ?_
   refine RW.one 2 (by kernel_rfl) ?_
   refine RO.eS0 rfl rfl (Ef.store [_, _] (by kernel_rfl) rfl rfl rfl rfl (by simp) ?_)
   try simp only [splice, List.length_cons, List.length_nil, List.drop_succ_cons, List.cons_append, List.take_succ_cons, List.take_zero, List.drop_zero, List.nil_append, List.append_nil]
   refine ⟨Sub.any, ?_⟩
   refine RW.done (by rfl) ?_
   simp only [List.drop_succ_cons, List.drop_zero, List.drop_nil]
   refine LW.e0 rfl (Ef.store [_, _, _, _, _] (by kernel_rfl) rfl rfl rfl rfl (by simp) ?_)
   try simp only [splice, List.length_cons, List.length_nil, List.drop_succ_cons, List.cons_append, List.take_succ_cons, List.take_zero, List.drop_zero, List.nil_append, List.append_nil]
   refine LW.done ?_
   refine T.ret ?_
   exact ⟨.inl rfl, _, _, res [_, _] rfl ⟨rvA [_, _] (by kernel_rfl) rfl ⟨rfl, rfl, trivial⟩, rvA [_, _, _, _, _] (by kernel_rfl) rfl ⟨rfl, rfl, rfl, rfl, rfl, trivial⟩, trivial⟩, ⟨p1, a1, rfl, rfl⟩, Sub.any⟩
end Go.Proofs.YtegohgaccmkigaaGreatDoor
