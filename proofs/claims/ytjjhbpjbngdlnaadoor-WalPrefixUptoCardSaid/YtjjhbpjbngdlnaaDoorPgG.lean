/- The statement PageTorn. Conditions: that the scripts can be read; sizes. -/
import Derived.Test.YtjjhbpjbngdlnaaDoorPgF
set_option linter.unusedSimpArgs false
set_option linter.unusedVariables false
namespace Go.Proofs.YtjjhbpjbngdlnaaDoor
open Go.RowKit

theorem Fn.frame {P : Program} {B : Base} {g : FuncId} {args : Array Value} {pre : List Assn} {R : Value → List Assn → Prop} (h : Fn P B g args pre R) (S : List Assn) : Fn P B g args (pre ++ S) (fun v l => ∃ l', R v l' ∧ l = l' ++ S) := ⟨fun w F ho => by
  rw [List.append_assoc] at ho
  refine (h.run w (S ++ F) ho).mono ?_
  rintro _ w' ⟨v, l, rfl, hR, ho'⟩
  exact ⟨v, l ++ S, rfl, ⟨l, hR, rfl⟩, by rw [List.append_assoc]; exact ho'⟩⟩
theorem RoS.rd {B : Base} {v : Value} {cs : List Value} (h : RoS B v cs) (S : List Assn) : RdV B S v cs := by
  obtain ⟨a, cap, rfl, h | ⟨b, o, C, rfl, k, h⟩⟩ := h
  · exact ⟨a, cap, rfl, .inl h⟩
  · exact ⟨_, cap, rfl, .inr ⟨b, o, rfl, fun w ho => ho.range (g := b) (C := C) (fun j u hj => by have := h j u hj; rwa [Nat.mul_one] at this)⟩⟩

/-- One call of the statements. -/
structure OpP where
  kind : Int
  slot : Int
  at_ : Int
  data : List UInt8
  mark : Int
/-- A slice of calls that lies in memory that is only read. -/
def RoLP (B : Base) (v : Value) (l : List OpP) : Prop := ∃ a cap, v = .slice a l.length cap ∧ (l = [] ∨ ∃ b o C, a = some ⟨b, o, none⟩ ∧ ROc B b C ∧
  ∀ i (hi : i < l.length), ∃ da dc, rdl C (o + i * 5) [.int .i64 l[i].kind, .int .i64 l[i].slot, .int .i64 l[i].at_, .slice da l[i].data.length dc, .int .i64 l[i].mark] ∧ RoS B (.slice da l[i].data.length dc) (bytesV l[i].data))

/-- Add: the records then, and what it answers. -/
def addR (recs : List (List UInt8)) (b : List UInt8) : List (List UInt8) × Int × Int :=
  if 200 < b.length then (recs, 0, 2) else if 243 < usedR recs + b.length + 1 then (recs, 0, 3) else (recs ++ [b], recs.length, 0)
theorem addR_used {recs : List (List UInt8)} {b : List UInt8} (h : usedR recs ≤ 243) : usedR (addR recs b).1 ≤ 243 := by
  unfold addR
  split
  · exact h
  · split
    · exact h
    · rw [usedR_append]; have : usedR [b] = b.length + 1 := by simp [usedR]
      omega
theorem Pg.addAny (B : Base) (S : List Assn) (g : Nat) (recs : List (List UInt8)) (mark : Int) (a : Option Addr) (m c : Nat) (b : List UInt8) (hv : RdV B S (.slice a m c) (bytesV b)) (hm : b.length = m) (hu : usedR recs ≤ 243) : Fn Tryd.prog B 14 #[.pointer (some ⟨g, 0, none⟩), .slice a m c] (pgA g recs mark :: S) (fun v l => v = .tuple #[.int .i64 (addR recs b).2.1, .int .i64 (addR recs b).2.2] ∧ l = pgA g (addR recs b).1 mark :: S) := by
  subst hm
  unfold addR
  by_cases h1 : 200 < b.length
  · simp only [if_pos h1]
    exact Pg.add_long B _ g recs mark a b.length c h1
  · by_cases h2 : 243 < usedR recs + b.length + 1
    · simp only [if_neg h1, if_pos h2]
      refine ((Pg.add_full B g recs mark a b.length c (by omega) hu h2).frame S).mono ?_
      rintro v l ⟨l', ⟨rfl, rfl⟩, rfl⟩
      exact ⟨rfl, rfl⟩
    · simp only [if_neg h1, if_neg h2]
      exact Pg.add B S g recs mark a b.length c b hv rfl (by omega) (by omega)
theorem openR_err {b : List UInt8} {e : Int} (hb : b.length = 256) (h : openR b = .error e) : e = 30 ∨ e = 31 := by
  unfold openR at h
  rw [if_neg (by omega)] at h
  split at h
  · injection h with h; exact .inl h.symm
  · split at h
    · injection h with h; exact .inr h.symm
    · cases h
theorem Pg.open_err {P : Program} {B : Base} {f : FuncId} {args : Array Value} {S : List Assn} {b : List UInt8} {e : Int} (h : openR b = .error e) (H : Fn P B f args S (OpenPost S b)) : Fn P B f args S (fun v l => v = .tuple #[.pointer none, .int .i64 e] ∧ l = S) := H.mono fun v l hp => OpenPost.of_err h hp

theorem RdV.takeB {B : Base} {S : List Assn} {a : Option Addr} {m c : Nat} {b : List UInt8} (hv : RdV B S (.slice a m c) (bytesV b)) (hi c' : Nat) (hh : hi ≤ b.length) : RdV B S (.slice a hi c') (bytesV (b.take hi)) := by
  have := hv.take hi c' (by simpa using hh)
  rwa [show (bytesV b).take hi = bytesV (b.take hi) by simp [bytesV]] at this

set_option maxHeartbeats 4000000 in
set_option maxRecDepth 100000 in
theorem Pg.torn (B : Base) (va vb : Value) (la lb : List OpP) (cut : Int) (ha : RoLP B va la) (hb : RoLP B vb lb) (hla : la.length ≤ 1048576) (hlb : lb.length ≤ 1048576) : Fn Tryd.prog B 5 #[va, vb, .int .i64 cut] [] (fun v l => v = .bool true ∧ l = []) := by
  obtain ⟨aa, ac, rfl, hac⟩ := ha
  obtain ⟨ba, bc, rfl, hbc⟩ := hb
  refine Fn.enter3 118 Tryd.func5 rfl rfl (Nat.le_of_ble_eq_true rfl) (fun F => ?_)
  try simp only [List.cons_append, List.nil_append]
  refine T.seq ?_
  refine T.region ?_
  refine LW.q rfl (Qt.assign rfl) ?_
  refine LW.done ?_
  refine T.seq ?_
  refine T.seq ?_
  refine T.region ?_
  refine LW.e rfl (Ef.call (Pg.awake B) Tryd.func12 rfl rfl rfl ?_)
  rintro _ _ ⟨rfl, rfl⟩
  try simp only [List.cons_append, List.nil_append]
  first | refine LW.q rfl (Qt.notP rfl) ?_ | refine LW.q rfl (Qt.notB rfl) ?_
  refine LW.done ?_
  first | refine T.condF rfl ?_ | refine T.condPF rfl (by omega) ?_ | refine T.condBF rfl (by omega) ?_
  refine T.skip ?_
  refine T.seq ?_
  refine T.region ?_
  refine LW.e rfl (Ef.call (Pg.new B) Tryd.func13 rfl rfl rfl ?_)
  rintro _ _ ⟨gp, rfl, rfl⟩
  try simp only [List.cons_append, List.nil_append]
  refine LW.e rfl (Ef.call (Pg.new B) Tryd.func13 rfl rfl rfl ?_)
  rintro _ _ ⟨gq, rfl, rfl⟩
  try simp only [List.cons_append, List.nil_append]
  refine LW.q rfl (Qt.assign rfl) ?_
  refine LW.q rfl (Qt.assign rfl) ?_
  refine LW.done ?_
  refine T.seq ?_
  refine T.seq ?_
  refine T.region ?_
  refine LW.q rfl (Qt.move rfl) ?_
  refine LW.q rfl (Qt.len (e := 45) (sz := 5) (by kernel_rfl) rfl) ?_
  refine LW.q rfl (Qt.move rfl) ?_
  refine LW.done ?_
  refine T.block ?_
  refine T.loop (fun mz fz lz => ∃ (f0 : Fr) (k : Nat) (recs : List (List UInt8)), (k ≤ la.length ∧ usedR recs ≤ 243) ∧ mz = la.length - k ∧ fz = (upd (upd (upd (upd (upd (upd (upd f0 1 (.slice ba lb.length bc)) 2 (.int .i64 cut)) 7 (.pointer (some ⟨gp, 0, none⟩))) 8 (.pointer (some ⟨gq, 0, none⟩))) 22 (.slice aa la.length ac)) 23 (.int .i64 la.length)) 24 (.int .i64 k)) ∧ lz = pgA gp recs 0 :: pgA gq [] 0 :: F) ?_ ?_
  · refine ⟨_, _, ⟨_, 0, [], ⟨Nat.zero_le _, by simp [usedR]⟩, rfl, (updS rfl (updS rfl (updS rfl (updS rfl (updS rfl (updS rfl (updS rfl rfl))))))), rfl⟩, Sub.any⟩
  · skip
    rintro mz fz lz ⟨f0, k, recs, ⟨hk, hus⟩, hmz, rfl, rfl⟩
    subst mz
    try simp only [List.cons_append, List.nil_append]
    refine T.seq ?_
    refine T.region ?_
    refine LW.q rfl (Qt.lss rfl rfl) ?_
    refine LW.done ?_
    refine T.seq ?_
    refine T.condP rfl (fun hlt => ?_) (fun hlt => ?_)
    · skip
      obtain ⟨kb, ko, C, rfl, hro, hC⟩ := hac.resolve_left (by intro e; rw [e] at hlt; simp at hlt; omega)
      obtain ⟨da, dc, hrd, hdv⟩ := hC k (by omega)
      refine T.skip ?_
      refine T.seq ?_
      refine T.block ?_
      refine T.seq ?_
      refine T.region ?_
      refine LW.q rfl (Qt.index _ (e := 45) (sz := 5) (by kernel_rfl) rfl rfl rfl (by omega)) ?_
      refine LW.q rfl (Qt.loadAgg [_, _, _, _, _] (by kernel_rfl) rfl hrd) ?_
      refine LW.e rfl (Ef.alloc [.int .i64 0, .int .i64 0, .int .i64 0, .slice none 0 0, .int .i64 0] (by unfold zeroB; kernel_rfl) ?_)
      intro g10
      refine LW.e0 rfl (Ef.store [_, _, _, _, _] (by kernel_rfl) rfl rfl rfl rfl (by simp) ?_)
      try simp only [splice, List.length_cons, List.length_nil, List.drop_succ_cons, List.cons_append, List.take_succ_cons, List.take_zero, List.drop_zero, List.nil_append, List.append_nil]
      refine LW.done ?_
      refine T.region ?_
      refine LW.q rfl (Qt.move rfl) ?_
      refine LW.q rfl (Qt.fieldAddr (off := 3) (by kernel_rfl) rfl) ?_
      first | refine LW.q rfl (Qt.load (by kernel_rfl) rfl rfl) ?_ | refine LW.q rfl (Qt.load (by kernel_rfl) rfl (map_at _ _ _ (by omega))) ?_ | refine LW.q rfl (Qt.load (by kernel_rfl) rfl (flat_cell0 _ _ _ (by intros; rfl) _ (by omega) (by rfl))) ?_ | refine LW.q rfl (Qt.load (by kernel_rfl) rfl (flat_cell _ _ _ (by intros; rfl) _ _ (by omega) (by rfl))) ?_ | refine LW.q rfl (Qt.load (by kernel_rfl) rfl (bytes_at _ _ (by omega))) ?_
      refine LW.e rfl (Ef.call (Pg.addAny B [] gp recs 0 da la[k].data.length dc la[k].data (hdv.rd []) rfl hus) Tryd.func14 rfl rfl rfl ?_)
      rintro _ _ ⟨rfl, rfl⟩
      try simp only [List.cons_append, List.nil_append]
      refine LW.done ?_
      refine T.region ?_
      refine LW.q rfl (Qt.add rfl rfl (wr64 (by omega) (by omega))) ?_
      refine LW.q rfl (Qt.move rfl) ?_
      refine LW.done ?_
      refine ⟨_, ?_, _, ⟨_, k + 1, _, ⟨by omega, addR_used (b := la[k].data) hus⟩, rfl, (updS rfl (updS rfl (updS rfl (updS rfl (updS rfl (updS rfl (updS rfl rfl))))))), rfl⟩, Sub.any⟩
      first | omega | (simp; omega)
    · skip
      have hu1 := hus
      clear hus hlt hk hac
      refine T.exit ?_
      refine T.seq ?_
      refine T.seq ?_
      refine T.region ?_
      refine LW.q rfl (Qt.move rfl) ?_
      refine LW.q rfl (Qt.len (e := 45) (sz := 5) (by kernel_rfl) rfl) ?_
      refine LW.q rfl (Qt.move rfl) ?_
      refine LW.done ?_
      refine T.block ?_
      refine T.loop (fun mz fz lz => ∃ (f0 : Fr) (k : Nat) (recs2 : List (List UInt8)) (mark2 : Int), (k ≤ lb.length ∧ usedR recs2 ≤ 243) ∧ mz = lb.length - k ∧ fz = (upd (upd (upd (upd (upd (upd f0 2 (.int .i64 cut)) 7 (.pointer (some ⟨gp, 0, none⟩))) 8 (.pointer (some ⟨gq, 0, none⟩))) 33 (.slice ba lb.length bc)) 34 (.int .i64 lb.length)) 35 (.int .i64 k)) ∧ lz = pgA gp recs 0 :: pgA gq recs2 mark2 :: F) ?_ ?_
      · refine ⟨_, _, ⟨_, 0, [], 0, ⟨Nat.zero_le _, by simp [usedR]⟩, rfl, (updS rfl (updS rfl (updS rfl (updS rfl (updS rfl (updS rfl rfl)))))), rfl⟩, Sub.any⟩
      · skip
        rintro mz fz lz ⟨f0, k, recs2, mark2, ⟨hk, hus⟩, hmz, rfl, rfl⟩
        subst mz
        try simp only [List.cons_append, List.nil_append]
        refine T.seq ?_
        refine T.region ?_
        refine LW.q rfl (Qt.lss rfl rfl) ?_
        refine LW.done ?_
        refine T.seq ?_
        refine T.condP rfl (fun hlt => ?_) (fun hlt => ?_)
        · skip
          obtain ⟨kb, ko, C, rfl, hro, hC⟩ := hbc.resolve_left (by intro e; rw [e] at hlt; simp at hlt; omega)
          obtain ⟨da, dc, hrd, hdv⟩ := hC k (by omega)
          refine T.skip ?_
          refine T.seq ?_
          refine T.block ?_
          refine T.seq ?_
          refine T.region ?_
          refine LW.q rfl (Qt.index _ (e := 45) (sz := 5) (by kernel_rfl) rfl rfl rfl (by omega)) ?_
          refine LW.q rfl (Qt.loadAgg [_, _, _, _, _] (by kernel_rfl) rfl hrd) ?_
          refine LW.e rfl (Ef.alloc [.int .i64 0, .int .i64 0, .int .i64 0, .slice none 0 0, .int .i64 0] (by unfold zeroB; kernel_rfl) ?_)
          intro g12
          refine LW.e0 rfl (Ef.store [_, _, _, _, _] (by kernel_rfl) rfl rfl rfl rfl (by simp) ?_)
          try simp only [splice, List.length_cons, List.length_nil, List.drop_succ_cons, List.cons_append, List.take_succ_cons, List.take_zero, List.drop_zero, List.nil_append, List.append_nil]
          refine LW.done ?_
          refine T.seq ?_
          refine T.region ?_
          refine LW.q rfl (Qt.move rfl) ?_
          refine LW.q rfl (Qt.fieldAddr (off := 3) (by kernel_rfl) rfl) ?_
          first | refine LW.q rfl (Qt.load (by kernel_rfl) rfl rfl) ?_ | refine LW.q rfl (Qt.load (by kernel_rfl) rfl (map_at _ _ _ (by omega))) ?_ | refine LW.q rfl (Qt.load (by kernel_rfl) rfl (flat_cell0 _ _ _ (by intros; rfl) _ (by omega) (by rfl))) ?_ | refine LW.q rfl (Qt.load (by kernel_rfl) rfl (flat_cell _ _ _ (by intros; rfl) _ _ (by omega) (by rfl))) ?_ | refine LW.q rfl (Qt.load (by kernel_rfl) rfl (bytes_at _ _ (by omega))) ?_
          refine LW.e rfl (Ef.call (Pg.addAny B [] gq recs2 mark2 da lb[k].data.length dc lb[k].data (hdv.rd []) rfl hus) Tryd.func14 rfl rfl rfl ?_)
          rintro _ _ ⟨rfl, rfl⟩
          try simp only [List.cons_append, List.nil_append]
          refine LW.done ?_
          refine T.region ?_
          refine LW.q rfl (Qt.move rfl) ?_
          refine LW.q rfl (Qt.fieldAddr (off := 4) (by kernel_rfl) rfl) ?_
          first | refine LW.q rfl (Qt.load (by kernel_rfl) rfl rfl) ?_ | refine LW.q rfl (Qt.load (by kernel_rfl) rfl (map_at _ _ _ (by omega))) ?_ | refine LW.q rfl (Qt.load (by kernel_rfl) rfl (flat_cell0 _ _ _ (by intros; rfl) _ (by omega) (by rfl))) ?_ | refine LW.q rfl (Qt.load (by kernel_rfl) rfl (flat_cell _ _ _ (by intros; rfl) _ _ (by omega) (by rfl))) ?_ | refine LW.q rfl (Qt.load (by kernel_rfl) rfl (bytes_at _ _ (by omega))) ?_
          refine LW.e rfl (Ef.call (Pg.setMark B gq (addR recs2 lb[k].data).1 mark2 lb[k].mark) Tryd.func21 rfl rfl rfl ?_)
          rintro _ _ ⟨rfl, rfl⟩
          try simp only [List.cons_append, List.nil_append]
          refine LW.done ?_
          refine T.region ?_
          refine LW.q rfl (Qt.add rfl rfl (wr64 (by omega) (by omega))) ?_
          refine LW.q rfl (Qt.move rfl) ?_
          refine LW.done ?_
          refine ⟨_, ?_, _, ⟨_, k + 1, _, (lb[k]'(by omega)).mark, ⟨by omega, addR_used (b := lb[k].data) hus⟩, rfl, (updS rfl (updS rfl (updS rfl (updS rfl (updS rfl (updS rfl rfl)))))), rfl⟩, Sub.any⟩
          first | omega | (simp; omega)
        · skip
          have l1 := length_pgBytes (recs := recs) (mark := 0) hu1
          have l2 := length_pgBytes (recs := recs2) (mark := mark2) hus
          obtain ⟨X, hX⟩ : ∃ X, pgBytes recs 0 = X := ⟨_, rfl⟩
          obtain ⟨Y, hY⟩ : ∃ Y, pgBytes recs2 mark2 = Y := ⟨_, rfl⟩
          rw [hX] at l1
          rw [hY] at l2
          refine T.exit ?_
          refine T.seq ?_
          refine T.region ?_
          refine LW.q rfl (Qt.move rfl) ?_
          refine LW.e rfl (Ef.call (Pg.bytes B gp recs 0) Tryd.func18 rfl rfl rfl ?_)
          rintro _ _ ⟨p1, c1, rfl, rfl⟩
          try simp only [List.cons_append, List.nil_append]
          rw [hX]
          refine LW.q rfl (Qt.move rfl) ?_
          refine LW.e rfl (Ef.call (Pg.bytes B gq recs2 mark2) Tryd.func18 rfl rfl rfl ?_)
          rintro _ _ ⟨p2, c2, rfl, rfl⟩
          try simp only [List.cons_append, List.nil_append]
          rw [hY]
          refine LW.own (fun w ho => ?_)
          have hp1 := (ho.slice_at (p := p1) (m := 256) (c := c1)).2.1
          have hc1 := ho.cap_at (p := p1) (m := 256) (c := c1)
          have hp2 := (ho.slice_at (p := p2) (m := 256) (c := c2)).2.1
          have hc2 := ho.cap_at (p := p2) (m := 256) (c := c2)
          clear ho
          refine LW.q rfl (Qt.assign rfl) ?_
          refine LW.q rfl (Qt.assign rfl) ?_
          refine LW.done ?_
          refine T.seq ?_
          refine T.seq ?_
          refine T.region ?_
          refine LW.q rfl (Qt.move rfl) ?_
          refine LW.q rfl (Qt.len (e := 5) (sz := 1) (by kernel_rfl) rfl) ?_
          refine LW.q rfl (Qt.neq rfl rfl) ?_
          refine LW.q rfl (Qt.move rfl) ?_
          have r1 : RdV B [rB (.slice p1 256 c1) 256 X] (.slice p1 256 c1) (bytesV X) := RdV.rB l1 hp1
          have r2 : RdV B [rB (.slice p2 256 c2) 256 Y] (.slice p2 256 c2) (bytesV Y) := RdV.rB l2 hp2
          first | refine LW.gF (t := 55) rfl rfl ?_ | refine LW.gF (t := 55) rfl (decide_eq_false (by omega)) ?_ | refine LW.gF (t := 55) rfl (by omega) ?_
          refine LW.q rfl (Qt.move rfl) ?_
          refine LW.q rfl (Qt.len (e := 5) (sz := 1) (by kernel_rfl) rfl) ?_
          refine LW.q rfl (Qt.neq rfl rfl) ?_
          refine LW.q rfl (Qt.pick rfl rfl) ?_
          refine LW.q rfl (Qt.move rfl) ?_
          first | refine LW.gF (t := 60) rfl rfl ?_ | refine LW.gF (t := 60) rfl (decide_eq_false (by omega)) ?_ | refine LW.gF (t := 60) rfl (by omega) ?_
          refine LW.q rfl (Qt.move rfl) ?_
          refine LW.q rfl (Qt.lss rfl rfl) ?_
          refine LW.q rfl (Qt.pick rfl rfl) ?_
          refine LW.q rfl (Qt.move rfl) ?_
          refine LW.split (t := 64) rfl (fun h0 => ?_) (fun h0 => ?_)
          · skip
            try replace h0 := of_decide_eq_true h0
            refine LW.s rfl ?_
            refine LW.s rfl ?_
            refine LW.q rfl (Qt.pick rfl rfl) ?_
            refine LW.done ?_
            first | refine T.condT rfl ?_ | refine T.condPT rfl (by omega) ?_ | refine T.condBT rfl (by omega) ?_
            refine T.seq ?_
            refine T.region ?_
            refine LW.q rfl (Qt.move rfl) ?_
            refine LW.q rfl (Qt.len (e := 5) (sz := 1) (by kernel_rfl) rfl) ?_
            refine LW.q rfl (Qt.eql rfl rfl) ?_
            refine LW.q rfl (Qt.move rfl) ?_
            first | refine LW.gT (t := 71) rfl rfl ?_ | refine LW.gT (t := 71) rfl (decide_eq_true (by omega)) ?_ | refine LW.gT (t := 71) rfl (by omega) ?_
            refine LW.q rfl (Qt.move rfl) ?_
            refine LW.q rfl (Qt.len (e := 5) (sz := 1) (by kernel_rfl) rfl) ?_
            refine LW.q rfl (Qt.eql rfl rfl) ?_
            refine LW.q rfl (Qt.pick rfl rfl) ?_
            refine LW.q rfl (Qt.assign rfl) ?_
            refine LW.done ?_
            refine T.ret ?_
            exact ⟨.inl rfl, _, _, res [_] rfl ⟨rvT rfl, trivial⟩, ⟨rfl, rfl⟩, Sub.any⟩
          · skip
            try replace h0 := of_decide_eq_false h0
            refine LW.q rfl (Qt.move rfl) ?_
            refine LW.q rfl (Qt.gtr rfl rfl) ?_
            refine LW.q rfl (Qt.pick rfl rfl) ?_
            refine LW.done ?_
            refine T.condP rfl (fun h1 => ?_) (fun h1 => ?_)
            · skip
              refine T.seq ?_
              refine T.region ?_
              refine LW.q rfl (Qt.move rfl) ?_
              refine LW.q rfl (Qt.len (e := 5) (sz := 1) (by kernel_rfl) rfl) ?_
              refine LW.q rfl (Qt.eql rfl rfl) ?_
              refine LW.q rfl (Qt.move rfl) ?_
              first | refine LW.gT (t := 71) rfl rfl ?_ | refine LW.gT (t := 71) rfl (decide_eq_true (by omega)) ?_ | refine LW.gT (t := 71) rfl (by omega) ?_
              refine LW.q rfl (Qt.move rfl) ?_
              refine LW.q rfl (Qt.len (e := 5) (sz := 1) (by kernel_rfl) rfl) ?_
              refine LW.q rfl (Qt.eql rfl rfl) ?_
              refine LW.q rfl (Qt.pick rfl rfl) ?_
              refine LW.q rfl (Qt.assign rfl) ?_
              refine LW.done ?_
              refine T.ret ?_
              exact ⟨.inl rfl, _, _, res [_] rfl ⟨rvT rfl, trivial⟩, ⟨rfl, rfl⟩, Sub.any⟩
            · skip
              obtain ⟨q, rfl⟩ : ∃ q : Nat, cut = q := ⟨cut.toNat, by omega⟩
              refine T.skip ?_
              refine T.seq ?_
              refine T.draw 9 ([]) (by kernel_rfl) (Nat.le_of_ble_eq_true rfl) (by kernel_rfl) ?_
              refine RW.q 1 rfl rfl (by kernel_rfl) Sub.any (Qt.move rfl) ?_
              refine RW.q 2 rfl rfl (by kernel_rfl) Sub.any (Qt.move rfl) ?_
              refine RW.q 3 rfl rfl (by kernel_rfl) Sub.any (Qt.slice_nsn q (e := 5) (sz := 1) (by kernel_rfl) rfl rfl rfl (by omega)) ?_
              refine RW.q 5 rfl rfl (by kernel_rfl) Sub.any (Qt.move rfl) ?_
              refine RW.q 6 rfl rfl (by kernel_rfl) Sub.any (Qt.move rfl) ?_
              refine RW.q 7 rfl rfl (by kernel_rfl) Sub.any (Qt.slice_snn q (e := 5) (sz := 1) (by kernel_rfl) rfl rfl rfl (by omega)) ?_
              refine RW.one 0 (by kernel_rfl) ?_
              refine RO.eS rfl rfl (Ef.empty Cd.elemB ?_)
              rintro g76
              try simp only [List.cons_append, List.nil_append]
              refine ⟨Sub.any, ?_⟩
              refine RW.one 4 (by kernel_rfl) ?_
              refine RO.eS rfl rfl (Ef.append Cd.elemB rfl rfl (SrcOf.rd (m := q) (RdV.mono (r2.takeB q c2 (by omega)) (fun w ho => ho.map Sub.any)) (by kernel_rfl) (by simp; omega) one_bytesV) (by unfold maxLen; omega) (by omega) ?_)
              rintro p4 c4 hp4
              try simp only [List.cons_append, List.nil_append]
              simp only [Nat.zero_add, List.nil_append]
              refine ⟨Sub.any, ?_⟩
              refine RW.one 8 (by kernel_rfl) ?_
              refine RO.eS rfl rfl (Ef.append Cd.elemB rfl rfl (SrcOf.rd (m := 256 - q) (RdV.mono (r1.dropB q (by omega) l1 hc1) (fun w ho => ho.map Sub.any)) (by kernel_rfl) (by simp; omega) one_bytesV) (by unfold maxLen; omega) (by omega) ?_)
              rintro p5 c5 hp5
              try simp only [List.cons_append, List.nil_append]
              rw [← bytesV_append, show q + (256 - q) = 256 by omega]
              obtain ⟨Z, hZ⟩ : ∃ Z, Y.take q ++ X.drop q = Z := ⟨_, rfl⟩
              have l3 : Z.length = 256 := by rw [← hZ]; simp; omega
              rw [hZ]
              refine ⟨Sub.any, ?_⟩
              refine RW.done (by rfl) ?_
              simp only [List.drop_succ_cons, List.drop_zero, List.drop_nil]
              refine LW.q rfl (Qt.assign rfl) ?_
              refine LW.done ?_
              refine T.seq ?_
              refine T.region ?_
              refine LW.q rfl (Qt.move rfl) ?_
              refine LW.own (fun w ho => ?_)
              have hc5 := ho.cap_at (p := p5) (m := 256) (c := c5)
              clear ho
              have r3 : RdV B [rB (.slice p5 256 c5) 256 Z] (.slice p5 256 c5) (bytesV Z) := RdV.rB l3 (fun _ => hp5 (by omega))
              by_cases he : ∃ e, openR Z = .error e
              · skip
                obtain ⟨e, he⟩ := he
                refine LW.e rfl (Ef.call (Pg.open_err he (Pg.open B [rB (.slice p5 256 c5) 256 Z] p5 256 c5 Z r3 l3 hc5 (by omega))) Tryd.func15 rfl rfl rfl ?_)
                rintro _ _ ⟨rfl, rfl⟩
                try simp only [List.cons_append, List.nil_append]
                refine LW.q rfl (Qt.move rfl) ?_
                refine LW.q rfl (Qt.extract rfl rfl) ?_
                refine LW.q rfl (Qt.extract rfl rfl) ?_
                refine LW.q rfl (Qt.assign rfl) ?_
                refine LW.q rfl (Qt.assign rfl) ?_
                refine LW.done ?_
                refine T.seq ?_
                refine T.seq ?_
                refine T.region ?_
                refine LW.q rfl (Qt.move rfl) ?_
                first | refine LW.q rfl (Qt.eqlNil (by kernel_rfl) rfl rfl) ?_ | refine LW.q rfl (Qt.eqlNN (by kernel_rfl) rfl rfl) ?_
                refine LW.done ?_
                first | refine T.condT rfl ?_ | refine T.condPT rfl (by omega) ?_ | refine T.condBT rfl (by omega) ?_
                by_cases e30 : e = 30
                · skip
                  subst e30
                  refine T.seq ?_
                  refine T.region ?_
                  refine LW.q rfl (Qt.move rfl) ?_
                  refine LW.q rfl (Qt.eql rfl rfl) ?_
                  refine LW.q rfl (Qt.move rfl) ?_
                  first | refine LW.gT (t := 94) rfl rfl ?_ | refine LW.gT (t := 94) rfl (decide_eq_true (by omega)) ?_ | refine LW.gT (t := 94) rfl (by omega) ?_
                  refine LW.s rfl ?_
                  refine LW.s rfl ?_
                  refine LW.q rfl (Qt.pick rfl rfl) ?_
                  refine LW.q rfl (Qt.assign rfl) ?_
                  refine LW.done ?_
                  refine T.ret ?_
                  exact ⟨.inl rfl, _, _, res [_] rfl ⟨rvT rfl, trivial⟩, ⟨rfl, rfl⟩, Sub.any⟩
                · skip
                  obtain rfl : e = 31 := (openR_err l3 he).resolve_left e30
                  refine T.seq ?_
                  refine T.region ?_
                  refine LW.q rfl (Qt.move rfl) ?_
                  refine LW.q rfl (Qt.eql rfl rfl) ?_
                  refine LW.q rfl (Qt.move rfl) ?_
                  first | refine LW.gF (t := 94) rfl rfl ?_ | refine LW.gF (t := 94) rfl (decide_eq_false (by omega)) ?_ | refine LW.gF (t := 94) rfl (by omega) ?_
                  refine LW.q rfl (Qt.move rfl) ?_
                  refine LW.q rfl (Qt.eql rfl rfl) ?_
                  refine LW.q rfl (Qt.pick rfl rfl) ?_
                  refine LW.q rfl (Qt.assign rfl) ?_
                  refine LW.done ?_
                  refine T.ret ?_
                  exact ⟨.inl rfl, _, _, res [_] rfl ⟨rvT rfl, trivial⟩, ⟨rfl, rfl⟩, Sub.any⟩
              · skip
                obtain ⟨⟨R3, m3⟩, hr⟩ : ∃ x, openR Z = .ok x := by cases h : openR Z with | error e => exact (he ⟨e, h⟩).elim | ok x => exact ⟨x, rfl⟩
                refine LW.e rfl (Ef.call (Pg.open_ok hr (Pg.open B [rB (.slice p5 256 c5) 256 Z] p5 256 c5 Z r3 l3 hc5 (by omega))) Tryd.func15 rfl rfl rfl ?_)
                rintro _ _ ⟨g3, rfl, rfl⟩
                try simp only [List.cons_append, List.nil_append]
                refine LW.q rfl (Qt.move rfl) ?_
                refine LW.q rfl (Qt.extract rfl rfl) ?_
                refine LW.q rfl (Qt.extract rfl rfl) ?_
                refine LW.q rfl (Qt.assign rfl) ?_
                refine LW.q rfl (Qt.assign rfl) ?_
                refine LW.done ?_
                refine T.seq ?_
                refine T.seq ?_
                refine T.region ?_
                refine LW.q rfl (Qt.move rfl) ?_
                first | refine LW.q rfl (Qt.eqlNil (by kernel_rfl) rfl rfl) ?_ | refine LW.q rfl (Qt.eqlNN (by kernel_rfl) rfl rfl) ?_
                refine LW.done ?_
                first | refine T.condF rfl ?_ | refine T.condPF rfl (by omega) ?_ | refine T.condBF rfl (by omega) ?_
                refine T.skip ?_
                refine T.seq ?_
                refine T.drawAll 20 (by kernel_rfl) (Nat.le_of_ble_eq_true rfl) (by kernel_rfl) ?_
                refine RW.q 0 rfl rfl (by kernel_rfl) (Sub.refl _) (Qt.move rfl) ?_
                refine RW.q 1 rfl rfl (by kernel_rfl) (Sub.refl _) (Qt.str Z (by kernel_rfl) (by kernel_rfl) rfl (fun w ho => r3.reads w (ho.map Sub.any))) ?_
                refine RW.q 2 rfl rfl (by kernel_rfl) (Sub.refl _) (Qt.move rfl) ?_
                refine RW.q 3 rfl rfl (by kernel_rfl) (Sub.refl _) (Qt.str X (by kernel_rfl) (by kernel_rfl) rfl (fun w ho => r1.reads w (ho.map Sub.any))) ?_
                refine RW.q 4 rfl rfl (by kernel_rfl) (Sub.refl _) (Qt.eqlS rfl rfl) ?_
                refine RW.q 5 rfl rfl (by kernel_rfl) (Sub.refl _) (Qt.move rfl) ?_
                refine RW.split (t := 103) rfl (fun hx => ?_) (fun hx => ?_)
                · skip
                  try replace hx := of_decide_eq_true hx
                  refine RW.s 6 rfl rfl (by kernel_rfl) (Sub.refl _) ?_
                  refine RW.s 7 rfl rfl (by kernel_rfl) (Sub.refl _) ?_
                  refine RW.s 8 rfl rfl (by kernel_rfl) (Sub.refl _) ?_
                  refine RW.s 9 rfl rfl (by kernel_rfl) (Sub.refl _) ?_
                  refine RW.s 10 rfl rfl (by kernel_rfl) (Sub.refl _) ?_
                  refine RW.q 11 rfl rfl (by kernel_rfl) (Sub.refl _) (Qt.pick rfl rfl) ?_
                  refine RW.q 12 rfl rfl (by kernel_rfl) (Sub.refl _) (Qt.move rfl) ?_
                  first | refine RW.gT (t := 110) rfl rfl ?_ | refine RW.gT (t := 110) rfl (decide_eq_true (by omega)) ?_ | refine RW.gT (t := 110) rfl (by omega) ?_
                  refine RW.s 13 rfl rfl (by kernel_rfl) (Sub.refl _) ?_
                  refine RW.s 14 rfl rfl (by kernel_rfl) (Sub.refl _) ?_
                  refine RW.s 15 rfl rfl (by kernel_rfl) (Sub.refl _) ?_
                  refine RW.s 16 rfl rfl (by kernel_rfl) (Sub.refl _) ?_
                  refine RW.s 17 rfl rfl (by kernel_rfl) (Sub.refl _) ?_
                  refine RW.s 18 rfl rfl (by kernel_rfl) (Sub.refl _) ?_
                  refine RW.q 19 rfl rfl (by kernel_rfl) (Sub.refl _) (Qt.pick rfl rfl) ?_
                  refine RW.done (by rfl) ?_
                  simp only [List.drop_succ_cons, List.drop_zero, List.drop_nil]
                  refine LW.q rfl (Qt.assign rfl) ?_
                  refine LW.done ?_
                  refine T.ret ?_
                  exact ⟨.inl rfl, _, _, res [_] rfl ⟨rvT rfl, trivial⟩, ⟨by simp [outV], rfl⟩, Sub.any⟩
                · skip
                  try replace hx := of_decide_eq_false hx
                  refine RW.q 6 rfl rfl (by kernel_rfl) (Sub.refl _) (Qt.move rfl) ?_
                  refine RW.q 7 rfl rfl (by kernel_rfl) (Sub.refl _) (Qt.str Z (by kernel_rfl) (by kernel_rfl) rfl (fun w ho => r3.reads w (ho.map Sub.any))) ?_
                  refine RW.q 8 rfl rfl (by kernel_rfl) (Sub.refl _) (Qt.move rfl) ?_
                  refine RW.q 9 rfl rfl (by kernel_rfl) (Sub.refl _) (Qt.str Y (by kernel_rfl) (by kernel_rfl) rfl (fun w ho => r2.reads w (ho.map Sub.any))) ?_
                  refine RW.q 10 rfl rfl (by kernel_rfl) (Sub.refl _) (Qt.eqlS rfl rfl) ?_
                  refine RW.q 11 rfl rfl (by kernel_rfl) (Sub.refl _) (Qt.pick rfl rfl) ?_
                  refine RW.q 12 rfl rfl (by kernel_rfl) (Sub.refl _) (Qt.move rfl) ?_
                  refine RW.split (t := 110) rfl (fun hy => ?_) (fun hy => ?_)
                  · skip
                    try replace hy := of_decide_eq_true hy
                    refine RW.s 13 rfl rfl (by kernel_rfl) (Sub.refl _) ?_
                    refine RW.s 14 rfl rfl (by kernel_rfl) (Sub.refl _) ?_
                    refine RW.s 15 rfl rfl (by kernel_rfl) (Sub.refl _) ?_
                    refine RW.s 16 rfl rfl (by kernel_rfl) (Sub.refl _) ?_
                    refine RW.s 17 rfl rfl (by kernel_rfl) (Sub.refl _) ?_
                    refine RW.s 18 rfl rfl (by kernel_rfl) (Sub.refl _) ?_
                    refine RW.q 19 rfl rfl (by kernel_rfl) (Sub.refl _) (Qt.pick rfl rfl) ?_
                    refine RW.done (by rfl) ?_
                    simp only [List.drop_succ_cons, List.drop_zero, List.drop_nil]
                    refine LW.q rfl (Qt.assign rfl) ?_
                    refine LW.done ?_
                    refine T.ret ?_
                    exact ⟨.inl rfl, _, _, res [_] rfl ⟨rvT rfl, trivial⟩, ⟨by simp [outV], rfl⟩, Sub.any⟩
                  · skip
                    try replace hy := of_decide_eq_false hy
                    refine RW.q 13 rfl rfl (by kernel_rfl) (Sub.refl _) (Qt.move rfl) ?_
                    refine RW.q 16 rfl rfl (by kernel_rfl) (Sub.refl _) (Qt.move rfl) ?_
                    refine RW.q 17 rfl rfl (by kernel_rfl) (Sub.refl _) (Qt.str Z (by kernel_rfl) (by kernel_rfl) rfl (fun w ho => r3.reads w (ho.map Sub.any))) ?_
                    refine RW.one 14 (by kernel_rfl) ?_
                    refine RO.e rfl rfl (Ef.call (Pg.bytes B g3 R3 m3) Tryd.func18 rfl rfl rfl ?_)
                    rintro _ _ ⟨p6, c6, rfl, rfl⟩
                    try simp only [List.cons_append, List.nil_append]
                    rw [pgBytes_openR hr]
                    refine ⟨Sub.any, ?_⟩
                    refine RW.q 15 rfl rfl (by kernel_rfl) (Sub.refl _) (Qt.str Z (by kernel_rfl) (by kernel_rfl) rfl (fun _ ho => ho.reads_row l3)) ?_
                    refine RW.q 18 rfl rfl (by kernel_rfl) (Sub.refl _) (Qt.eqlS rfl rfl) ?_
                    refine RW.q 19 rfl rfl (by kernel_rfl) (Sub.refl _) (Qt.pick rfl rfl) ?_
                    refine RW.done (by rfl) ?_
                    simp only [List.drop_succ_cons, List.drop_zero, List.drop_nil]
                    refine LW.q rfl (Qt.assign rfl) ?_
                    refine LW.done ?_
                    refine T.ret ?_
                    exact ⟨.inl rfl, _, _, res [_] rfl ⟨rvT rfl, trivial⟩, ⟨by simp [outV], rfl⟩, Sub.any⟩
end Go.Proofs.YtjjhbpjbngdlnaaDoor
