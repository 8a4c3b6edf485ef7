/- The statements of the package page: awake. Conditions: none. -/
import Derived.Test.YtjjhbpjbngdlnaaDoorPgZ
import Derived.Test.YtjjhbpjbngdlnaaDoorSlH
set_option linter.unusedSimpArgs false
set_option linter.unusedVariables false
namespace Go.Proofs.YtjjhbpjbngdlnaaDoor
open Go.RowKit

theorem rdv_blk {B : Base} {L : List Assn} {g n c : Nat} {C : List Value} {b : List UInt8} [k : Rd B g L C] (hC : C = bytesV b) (hn : b.length = n) : RdV B L (.slice (some ⟨g, 0, none⟩) n c) (bytesV b) := by
  subst hC
  exact ⟨_, c, by simp [hn], .inr ⟨g, 0, rfl, fun w ho => ho.range (g := g) (C := bytesV b) (fun j u hj => by rw [Nat.zero_add]; exact hj)⟩⟩
theorem RdV.str {B : Base} {S : List Assn} {v : Value} {b : List UInt8} (h : RdV B S v (bytesV b)) : ∀ w, Own B w S → ∃ fp, Reads w v (bytesV b) fp := fun w ho => h.reads w ho
theorem OpenPost.of_ok {S : List Assn} {b : List UInt8} {recs : List (List UInt8)} {mark : Int} {v : Value} {l : List Assn} (h : openR b = .ok (recs, mark)) (hp : OpenPost S b v l) : ∃ g, v = .tuple #[.pointer (some ⟨g, 0, none⟩), .int .i64 0] ∧ l = pgA g recs mark :: S := by
  unfold OpenPost at hp; rw [h] at hp; exact hp
theorem OpenPost.of_err {S : List Assn} {b : List UInt8} {e : Int} {v : Value} {l : List Assn} (h : openR b = .error e) (hp : OpenPost S b v l) : v = .tuple #[.pointer none, .int .i64 e] ∧ l = S := by
  unfold OpenPost at hp; rw [h] at hp; exact hp
theorem Pg.open_ok {P : Program} {B : Base} {f : FuncId} {args : Array Value} {S : List Assn} {b : List UInt8} {recs : List (List UInt8)} {mark : Int} (h : openR b = .ok (recs, mark)) (H : Fn P B f args S (OpenPost S b)) : Fn P B f args S (fun v l => ∃ g, v = .tuple #[.pointer (some ⟨g, 0, none⟩), .int .i64 0] ∧ l = pgA g recs mark :: S) := by
  have e : OpenPost S b = fun v l => ∃ g, v = .tuple #[.pointer (some ⟨g, 0, none⟩), .int .i64 0] ∧ l = pgA g recs mark :: S := by
    funext v l; unfold OpenPost; rw [h]
  rwa [e] at H

theorem Pg.getE (B : Base) (g : Nat) (recs : List (List UInt8)) (mark i : Int) (j n : Nat) (b : List UInt8) (hi : i = j) (hb : recs[j]? = some b) (hn : b.length = n) : Fn Tryd.prog B 17 #[.pointer (some ⟨g, 0, none⟩), .int .i64 i] [pgA g recs mark] (fun v l => ∃ p c, v = .tuple #[.slice p n c, .int .i64 0] ∧ l = [rB (.slice p n c) n b, pgA g recs mark]) := by
  obtain ⟨hj, rfl⟩ := List.getElem?_eq_some_iff.1 hb
  subst hn
  exact Pg.get B g recs mark i j hi hj
abbrev abcR : List (List UInt8) := [[97, 98, 99]]
set_option maxHeartbeats 2000000 in
set_option maxRecDepth 100000 in
theorem Pg.awake (B : Base) : Fn Tryd.prog B 12 #[] [] (fun v l => v = .bool true ∧ l = []) := by
  refine Fn.enter0 55 Tryd.func12 rfl rfl (Nat.le_of_ble_eq_true rfl) (fun F => ?_)
  try simp only [List.cons_append, List.nil_append]
  refine T.seq ?_
  refine T.region ?_
  refine LW.q rfl (Qt.assign rfl) ?_
  refine LW.done ?_
  refine T.seq ?_
  refine T.region ?_
  refine LW.e rfl (Ef.call (Pg.new B) Tryd.func13 rfl rfl rfl ?_)
  rintro _ _ ⟨gp, rfl, rfl⟩
  try simp only [List.cons_append, List.nil_append]
  refine LW.q rfl (Qt.assign rfl) ?_
  refine LW.done ?_
  refine T.seq ?_
  refine T.seq ?_
  refine T.region ?_
  refine LW.q rfl (Qt.move rfl) ?_
  first | refine LW.q rfl (Qt.eqlNil (by kernel_rfl) rfl rfl) ?_ | refine LW.q rfl (Qt.eqlNN (by kernel_rfl) rfl rfl) ?_
  refine LW.done ?_
  first | refine T.condF rfl ?_ | refine T.condPF rfl (by omega) ?_ | refine T.condBF rfl (by omega) ?_
  refine T.skip ?_
  refine T.seq ?_
  refine T.region ?_
  refine LW.q rfl (Qt.move rfl) ?_
  refine LW.e rfl (Ef.lit [_, _, _] (e := 5) (by kernel_rfl) (by kernel_rfl) rfl (by simp [Value.cells]) rfl (by omega) (by omega) ?_)
  intro g13
  refine LW.e rfl (Ef.mark (by kernel_rfl) rfl ?_)
  refine LW.e rfl (Ef.call (Pg.add B [fblk g13 [.int .u8 97, .int .u8 98, .int .u8 99] 5 (3, 4)] gp [] 0 _ 3 3 [97, 98, 99] (rdv_blk rfl rfl) rfl (by omega) (by simp [usedR])) Tryd.func14 rfl rfl rfl ?_)
  rintro _ _ ⟨rfl, rfl⟩
  try simp only [List.cons_append, List.nil_append]
  refine LW.q rfl (Qt.move rfl) ?_
  refine LW.q rfl (Qt.extract rfl rfl) ?_
  refine LW.q rfl (Qt.extract rfl rfl) ?_
  refine LW.q rfl (Qt.assign rfl) ?_
  refine LW.q rfl (Qt.assign rfl) ?_
  refine LW.done ?_
  refine T.seq ?_
  refine T.region ?_
  refine LW.q rfl (Qt.move rfl) ?_
  have hok : PgOk abcR := ⟨by simp [usedR], by simp⟩
  refine LW.e rfl (Ef.call (Pg.bytes B gp abcR 0) Tryd.func18 rfl rfl rfl ?_)
  rintro _ _ ⟨p1, c1, rfl, rfl⟩
  try simp only [List.cons_append, List.nil_append]
  refine LW.own (fun w ho => ?_)
  have hp1 := (ho.slice_at (p := p1) (m := 256) (c := c1)).2.1
  have hc1 := ho.cap_at (p := p1) (m := 256) (c := c1)
  clear ho
  refine LW.e rfl (Ef.call (Pg.open_ok (openR_pgBytes hok (by simp) (by omega)) (Pg.open B [rB (.slice p1 256 c1) 256 (pgBytes abcR 0)] p1 256 c1 (pgBytes abcR 0) (RdV.rB (length_pgBytes hok.used) hp1) (length_pgBytes hok.used) hc1 (by omega))) Tryd.func15 rfl rfl rfl ?_)
  rintro _ _ ⟨g2, rfl, rfl⟩
  try simp only [List.cons_append, List.nil_append]
  refine LW.q rfl (Qt.move rfl) ?_
  refine LW.q rfl (Qt.extract rfl rfl) ?_
  refine LW.q rfl (Qt.extract rfl rfl) ?_
  refine LW.q rfl (Qt.assign rfl) ?_
  refine LW.q rfl (Qt.assign rfl) ?_
  refine LW.done ?_
  refine T.seq ?_
  refine T.seq ?_
  refine T.region ?_
  refine LW.q rfl (Qt.move rfl) ?_
  refine LW.q rfl (Qt.neq rfl rfl) ?_
  refine LW.q rfl (Qt.move rfl) ?_
  first | refine LW.gF (t := 26) rfl rfl ?_ | refine LW.gF (t := 26) rfl (decide_eq_false (by omega)) ?_ | refine LW.gF (t := 26) rfl (by omega) ?_
  refine LW.q rfl (Qt.move rfl) ?_
  refine LW.q rfl (Qt.neq rfl rfl) ?_
  refine LW.q rfl (Qt.pick rfl rfl) ?_
  refine LW.q rfl (Qt.move rfl) ?_
  first | refine LW.gF (t := 30) rfl rfl ?_ | refine LW.gF (t := 30) rfl (decide_eq_false (by omega)) ?_ | refine LW.gF (t := 30) rfl (by omega) ?_
  refine LW.q rfl (Qt.move rfl) ?_
  first | refine LW.q rfl (Qt.eqlNil (by kernel_rfl) rfl rfl) ?_ | refine LW.q rfl (Qt.eqlNN (by kernel_rfl) rfl rfl) ?_
  refine LW.q rfl (Qt.pick rfl rfl) ?_
  refine LW.q rfl (Qt.move rfl) ?_
  first | refine LW.gF (t := 34) rfl rfl ?_ | refine LW.gF (t := 34) rfl (decide_eq_false (by omega)) ?_ | refine LW.gF (t := 34) rfl (by omega) ?_
  refine LW.q rfl (Qt.move rfl) ?_
  refine LW.q rfl (Qt.neq rfl rfl) ?_
  refine LW.q rfl (Qt.pick rfl rfl) ?_
  refine LW.done ?_
  first | refine T.condF rfl ?_ | refine T.condPF rfl (by omega) ?_ | refine T.condBF rfl (by omega) ?_
  refine T.skip ?_
  refine T.seq ?_
  refine T.region ?_
  refine LW.q rfl (Qt.move rfl) ?_
  refine LW.e rfl (Ef.call (Pg.getE B g2 abcR 0 0 0 3 [97, 98, 99] rfl rfl rfl) Tryd.func17 rfl rfl rfl ?_)
  rintro _ _ ⟨p3, c3, rfl, rfl⟩
  try simp only [List.cons_append, List.nil_append]
  refine LW.own (fun w ho => ?_)
  have hp3 := (ho.slice_at (p := p3) (m := 3) (c := c3)).2.1
  clear ho
  refine LW.q rfl (Qt.move rfl) ?_
  refine LW.q rfl (Qt.extract rfl rfl) ?_
  refine LW.q rfl (Qt.extract rfl rfl) ?_
  refine LW.q rfl (Qt.assign rfl) ?_
  refine LW.q rfl (Qt.assign rfl) ?_
  refine LW.done ?_
  refine T.seq ?_
  refine T.region ?_
  refine LW.q rfl (Qt.move rfl) ?_
  refine LW.q rfl (Qt.str [97, 98, 99] (by kernel_rfl) (by kernel_rfl) rfl (fun w ho => (RdV.rB (b := [97, 98, 99]) (c := c3) rfl hp3).reads w (ho.map Sub.any))) ?_
  refine LW.q rfl (Qt.eqlS rfl rfl) ?_
  refine LW.q rfl (Qt.move rfl) ?_
  first | refine LW.gT (t := 46) rfl rfl ?_ | refine LW.gT (t := 46) rfl (decide_eq_true (by omega)) ?_ | refine LW.gT (t := 46) rfl (by omega) ?_
  refine LW.q rfl (Qt.move rfl) ?_
  refine LW.q rfl (Qt.eql rfl rfl) ?_
  refine LW.q rfl (Qt.pick rfl rfl) ?_
  refine LW.q rfl (Qt.move rfl) ?_
  first | refine LW.gT (t := 50) rfl rfl ?_ | refine LW.gT (t := 50) rfl (decide_eq_true (by omega)) ?_ | refine LW.gT (t := 50) rfl (by omega) ?_
  refine LW.q rfl (Qt.move rfl) ?_
  refine LW.e rfl (Ef.call (Pg.count B g2 abcR 0) Tryd.func16 rfl rfl rfl ?_)
  rintro _ _ ⟨rfl, rfl⟩
  try simp only [List.cons_append, List.nil_append]
  refine LW.q rfl (Qt.eql rfl rfl) ?_
  refine LW.q rfl (Qt.pick rfl rfl) ?_
  refine LW.q rfl (Qt.assign rfl) ?_
  refine LW.done ?_
  refine T.ret ?_
  exact ⟨.inl rfl, _, _, res [_] rfl ⟨rvT rfl, trivial⟩, ⟨rfl, rfl⟩, Sub.any⟩
end Go.Proofs.YtjjhbpjbngdlnaaDoor
