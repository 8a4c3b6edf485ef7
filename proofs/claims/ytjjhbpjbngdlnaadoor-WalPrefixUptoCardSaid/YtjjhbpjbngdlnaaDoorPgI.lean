/- The statement PageKeeps. Conditions: that what is handed in can be read; sizes. -/
import Derived.Test.YtjjhbpjbngdlnaaDoorPgH
set_option linter.unusedSimpArgs false
set_option linter.unusedVariables false
namespace Go.Proofs.YtjjhbpjbngdlnaaDoor
open Go.RowKit

theorem Fn.sub {P : Program} {B : Base} {g : FuncId} {args : Array Value} {pre : List Assn} {R R' : Value → List Assn → Prop} (h : Fn P B g args pre R) (hr : ∀ v l, R v l → ∃ l', Sub l l' ∧ R' v l') : Fn P B g args pre R' := ⟨fun w F ho => by
  refine (h.run w F ho).mono ?_
  rintro _ w' ⟨v, l, rfl, hR, ho'⟩
  obtain ⟨l', hs, hR'⟩ := hr v l hR
  exact ⟨v, l', rfl, hR', ho'.map fun k H => by
    obtain ⟨h1, h2, d, a, b, e1, e2⟩ := Has.split H
    exact Has.join d a b (hs _ e1) e2⟩⟩
theorem Pg.open_any {P : Program} {B : Base} {f : FuncId} {args : Array Value} {S : List Assn} {b : List UInt8} (H : Fn P B f args S (OpenPost S b)) : Fn P B f args S (fun _ l => l = S) := H.sub fun v l hp => by
  unfold OpenPost at hp
  split at hp
  · exact ⟨S, fun _ h => hp.2 ▸ h, rfl⟩
  · obtain ⟨g, _, rfl⟩ := hp
    exact ⟨S, fun _ h => h.tail, rfl⟩
theorem bytes_set (l : List UInt8) (j : Nat) (x : UInt8) : (bytesV l).set (0 + j * 1) (.int .u8 x.toNat) = bytesV (l.set j x) := by
  simp [bytesV, List.map_set]
theorem bytes_get {l : List UInt8} {j : Nat} {x : UInt8} (h : l[j]? = some x) : (bytesV l)[0 + j * 1]? = some (.int .u8 x.toNat) := by simp [bytesV, h]
theorem wr8_inc (x : UInt8) : IntKind.u8.wrap ((x.toNat : Int) + 1) = ((x + 1).toNat : Int) := by simp [IntKind.wrap, IntKind.bits, IntKind.signed]

set_option maxHeartbeats 4000000 in
set_option maxRecDepth 100000 in
theorem Pg.keeps (B : Base) (vb vs : Value) (b s : List UInt8) (hb : RoS B vb (bytesV b)) (hs : RoS B vs (bytesV s)) (hlb : b.length ≤ 1048576) (hls : s.length ≤ 1048576) : Fn Tryd.prog B 3 #[vb, vs] [] (fun v l => v = .bool true ∧ l = []) := by
  obtain ⟨ba, bc, rfl⟩ := (hb.rd []).form (m := b.length) (by simp)
  obtain ⟨sa, sc, rfl⟩ := (hs.rd []).form (m := s.length) (by simp)
  refine Fn.enter2 130 Tryd.func3 rfl rfl (Nat.le_of_ble_eq_true rfl) (fun F => ?_)
  try simp only [List.cons_append, List.nil_append]
  refine T.seq ?_
  refine T.region ?_
  refine LW.q rfl (Qt.assign rfl) ?_
  refine LW.done ?_
  refine T.seq ?_
  refine T.seq ?_
  refine T.region ?_
  refine LW.e rfl (Ef.call (Pg.awake B) Tryd.func12 rfl rfl rfl ?_)
  rintro _ _ ⟨rfl, rfl⟩
  try simp only [List.cons_append, List.nil_append]
  first | refine LW.q rfl (Qt.notP rfl) ?_ | refine LW.q rfl (Qt.notB rfl) ?_
  refine LW.done ?_
  first | refine T.condF rfl ?_ | refine T.condPF rfl (by omega) ?_ | refine T.condBF rfl (by omega) ?_
  refine T.skip ?_
  refine T.seq ?_
  refine T.region ?_
  refine LW.e rfl (Ef.empty Cd.elemB ?_)
  rintro g21
  try simp only [List.cons_append, List.nil_append]
  refine LW.q rfl (Qt.move rfl) ?_
  refine LW.e rfl (Ef.append Cd.elemB rfl rfl (SrcOf.rd (m := b.length) (hb.rd _) (by kernel_rfl) (by simp) one_bytesV) (by unfold maxLen; omega) (by omega) ?_)
  rintro p1 c1 hp1
  try simp only [List.cons_append, List.nil_append]
  simp only [Nat.zero_add, List.nil_append]
  refine LW.e rfl (Ef.one [_] (e := 5) (sz := 1) (by kernel_rfl) ⟨.int .u8 0, by kernel_rfl, rfl⟩ rfl rfl rfl (by omega) (by omega) ?_)
  intro g24
  refine LW.e rfl (Ef.append Cd.elemB rfl rfl (SrcOf.blk (by kernel_rfl) rfl (by simp [Value.oneCell'])) (by unfold maxLen; omega) (by omega) ?_)
  rintro p2 c2 hp2
  try simp only [List.cons_append, List.nil_append]
  obtain ⟨g2, rfl⟩ := hp2 (by omega)
  rw [show bytesV b ++ [Value.int .u8 77] = bytesV (b ++ [77]) by simp [bytesV]]
  refine LW.own (fun w ho => ?_)
  have hc2 := ho.cap_at (p := some ⟨g2, 0, none⟩) (m := b.length + 1) (c := c2)
  clear ho
  refine LW.q rfl (Qt.move rfl) ?_
  refine LW.q rfl (Qt.len (e := 5) (sz := 1) (by kernel_rfl) rfl) ?_
  refine LW.q rfl (Qt.slice_nsn b.length (e := 5) (sz := 1) (by kernel_rfl) rfl rfl rfl (by omega)) ?_
  refine LW.q rfl (Qt.assign rfl) ?_
  refine LW.done ?_
  refine T.seq ?_
  refine T.region ?_
  refine LW.e rfl (Ef.call (Pg.new B) Tryd.func13 rfl rfl rfl ?_)
  rintro _ _ ⟨gp, rfl, rfl⟩
  try simp only [List.cons_append, List.nil_append]
  refine LW.q rfl (Qt.assign rfl) ?_
  refine LW.done ?_
  refine T.seq ?_
  refine T.region ?_
  refine LW.q rfl (Qt.move rfl) ?_
  refine LW.q rfl (Qt.move rfl) ?_
  have hmine : RdV B [rB (.slice (some ⟨g2, 0, none⟩) (b.length + 1) c2) (b.length + 1) (b ++ [77])] (.slice (some ⟨g2, 0, none⟩) b.length c2) (bytesV b) := by have := (RdV.rB (p := some ⟨g2, 0, none⟩) (c := c2) (b := b ++ [77]) (m := b.length + 1) (by simp) (fun _ => ⟨_, rfl⟩)).takeB (B := B) b.length c2 (by simp); rwa [List.take_left'  rfl] at this
  refine LW.e rfl (Ef.call (Pg.addAny B [rB (.slice (some ⟨g2, 0, none⟩) (b.length + 1) c2) (b.length + 1) (b ++ [77])] gp [] 0 (some ⟨g2, 0, none⟩) b.length c2 b hmine rfl (by simp [usedR])) Tryd.func14 rfl rfl rfl ?_)
  rintro _ _ ⟨rfl, rfl⟩
  try simp only [List.cons_append, List.nil_append]
  refine LW.q rfl (Qt.move rfl) ?_
  refine LW.q rfl (Qt.extract rfl rfl) ?_
  refine LW.q rfl (Qt.extract rfl rfl) ?_
  refine LW.q rfl (Qt.assign rfl) ?_
  refine LW.q rfl (Qt.assign rfl) ?_
  refine LW.done ?_
  refine T.seq ?_
  refine T.seq ?_
  refine T.region ?_
  refine LW.q rfl (Qt.move rfl) ?_
  refine LW.q rfl (Qt.len (e := 5) (sz := 1) (by kernel_rfl) rfl) ?_
  refine LW.q rfl (Qt.move rfl) ?_
  refine LW.done ?_
  refine T.block ?_
  refine T.loop (fun mz fz lz => ∃ (f0 : Fr) (i : Nat) (acc : List UInt8), (i ≤ b.length ∧ acc.length = b.length + 1 ∧ acc[b.length]? = some 77) ∧ mz = b.length - i ∧ fz = (upd (upd (upd (upd (upd (upd (upd f0 0 (.slice ba b.length bc)) 1 (.slice sa s.length sc)) 5 (.slice (some ⟨g2, 0, none⟩) b.length c2)) 6 (.pointer (some ⟨gp, 0, none⟩))) 8 (.int .i64 (addR [] b).2.2)) 37 (.int .i64 b.length)) 38 (.int .i64 i)) ∧ lz = pgA gp (addR [] b).1 0 :: rB (.slice (some ⟨g2, 0, none⟩) (b.length + 1) c2) (b.length + 1) acc :: F) ?_ ?_
  · refine ⟨_, _, ⟨_, 0, b ++ [77], ⟨Nat.zero_le _, by simp, by simp⟩, rfl, (updS rfl (updS rfl (updS rfl (updS rfl (updS rfl (updS rfl (updS rfl rfl))))))), rfl⟩, Sub.any⟩
  · skip
    rintro mz fz lz ⟨f0, i, acc, ⟨hi, hacc, h77⟩, hmz, rfl, rfl⟩
    subst mz
    try simp only [List.cons_append, List.nil_append]
    refine T.seq ?_
    refine T.region ?_
    refine LW.q rfl (Qt.lss rfl rfl) ?_
    refine LW.done ?_
    refine T.seq ?_
    refine T.condP rfl (fun hlt => ?_) (fun hlt => ?_)
    · skip
      obtain ⟨x, hx⟩ : ∃ x, acc[i]? = some x := ⟨_, List.getElem?_eq_getElem (by omega)⟩
      refine T.skip ?_
      refine T.seq ?_
      refine T.block ?_
      refine T.seq ?_
      refine T.region ?_
      refine LW.q rfl (Qt.move rfl) ?_
      refine LW.q rfl (Qt.assign rfl) ?_
      refine LW.done ?_
      refine T.region ?_
      refine LW.q rfl (Qt.move rfl) ?_
      refine LW.q rfl (Qt.move rfl) ?_
      refine LW.q rfl (Qt.index _ (e := 5) (sz := 1) (by kernel_rfl) rfl rfl rfl (by omega)) ?_
      refine LW.q rfl (Qt.load (v := .int .u8 x.toNat) (by kernel_rfl) rfl (bytes_get hx)) ?_
      refine LW.q rfl (Qt.add rfl rfl (wr8_inc x)) ?_
      refine LW.q rfl (Qt.index _ (e := 5) (sz := 1) (by kernel_rfl) rfl rfl rfl (by omega)) ?_
      refine LW.e0 rfl (Ef.store1 (by kernel_rfl) rfl rfl rfl (by first | (simp; done) | (simp; omega)) ?_)
      try simp only [List.set_cons_zero, List.set_cons_succ]
      rw [bytes_set acc i (x + 1)]
      refine LW.done ?_
      refine T.region ?_
      refine LW.q rfl (Qt.add rfl rfl (wr64 (by omega) (by omega))) ?_
      refine LW.q rfl (Qt.move rfl) ?_
      refine LW.done ?_
      refine ⟨_, ?_, _, ⟨_, i + 1, acc.set i (x + 1), ⟨by omega, by simp [hacc], by rw [List.getElem?_set_ne (by omega)]; exact h77⟩, rfl, (updS rfl (updS rfl (updS rfl (updS rfl (updS rfl (updS rfl (updS rfl rfl))))))), rfl⟩, Sub.any⟩
      first | omega | (simp; omega)
    · skip
      clear hlt
      by_cases hok : b.length ≤ 200 ∧ usedR [] + b.length + 1 ≤ 243
      · skip
        simp only [addR_ok hok, List.nil_append]
        refine T.exit ?_
        refine T.seq ?_
        refine T.region ?_
        refine LW.e rfl (Ef.empty Cd.elemB ?_)
        rintro g48
        try simp only [List.cons_append, List.nil_append]
        refine LW.q rfl (Qt.move rfl) ?_
        refine LW.e rfl (Ef.append Cd.elemB rfl rfl (SrcOf.rd (m := s.length) (hs.rd _) (by kernel_rfl) (by simp) one_bytesV) (by unfold maxLen; omega) (by omega) ?_)
        rintro p5 c5 hp5
        try simp only [List.cons_append, List.nil_append]
        simp only [Nat.zero_add, List.nil_append]
        refine LW.own (fun w ho => ?_)
        have hc5 := ho.cap_at (p := p5) (m := s.length) (c := c5)
        clear ho
        refine LW.q rfl (Qt.assign rfl) ?_
        refine LW.done ?_
        refine T.seq ?_
        refine T.region ?_
        refine LW.q rfl (Qt.move rfl) ?_
        refine LW.e rfl (Ef.call (Pg.open_any (Pg.open B [rB (.slice p5 s.length c5) s.length s] p5 s.length c5 s (RdV.rB rfl (fun h => hp5 (by omega))) rfl hc5 (by omega))) Tryd.func15 rfl rfl rfl ?_)
        rintro _ _ rfl
        try simp only [List.cons_append, List.nil_append]
        refine LW.done ?_
        refine T.seq ?_
        refine T.seq ?_
        refine T.region ?_
        refine LW.q rfl (Qt.move rfl) ?_
        refine LW.q rfl (Qt.str s (by kernel_rfl) (by kernel_rfl) rfl (fun _ ho => ho.reads_row rfl)) ?_
        refine LW.q rfl (Qt.move rfl) ?_
        refine LW.q rfl (Qt.str s (by kernel_rfl) (by kernel_rfl) rfl (hs.rd _).str) ?_
        refine LW.q rfl (Qt.neqS rfl rfl) ?_
        refine LW.q rfl (Qt.move rfl) ?_
        first | refine LW.gF (t := 58) rfl rfl ?_ | refine LW.gF (t := 58) rfl (decide_eq_false ((by simp))) ?_ | refine LW.gF (t := 58) rfl ((by simp)) ?_
        refine LW.q rfl (Qt.move rfl) ?_
        refine LW.q rfl (Qt.move rfl) ?_
        refine LW.q rfl (Qt.len (e := 5) (sz := 1) (by kernel_rfl) rfl) ?_
        refine LW.q rfl (Qt.add rfl rfl (wr64 (by omega) (by omega))) ?_
        refine LW.q rfl (Qt.slice_nsn (b.length + 1) (e := 5) (sz := 1) (by kernel_rfl) rfl rfl (by omega) (by omega)) ?_
        refine LW.q rfl (Qt.move rfl) ?_
        refine LW.q rfl (Qt.len (e := 5) (sz := 1) (by kernel_rfl) rfl) ?_
        refine LW.q rfl (Qt.index _ (e := 5) (sz := 1) (by kernel_rfl) rfl rfl rfl (by omega)) ?_
        refine LW.q rfl (Qt.load (v := .int .u8 77) (by kernel_rfl) rfl (bytes_get (x := 77) h77)) ?_
        refine LW.q rfl (Qt.neq rfl rfl) ?_
        refine LW.q rfl (Qt.pick rfl rfl) ?_
        refine LW.done ?_
        first | refine T.condF rfl ?_ | refine T.condPF rfl (by omega) ?_ | refine T.condBF rfl (by omega) ?_
        refine T.skip ?_
        refine T.seq ?_
        refine T.seq ?_
        refine T.region ?_
        refine LW.q rfl (Qt.move rfl) ?_
        refine LW.q rfl (Qt.neq rfl rfl) ?_
        refine LW.done ?_
        first | refine T.condF rfl ?_ | refine T.condPF rfl (by omega) ?_ | refine T.condBF rfl (by omega) ?_
        refine T.skip ?_
        refine T.seq ?_
        refine T.region ?_
        refine LW.q rfl (Qt.move rfl) ?_
        refine LW.e rfl (Ef.call (Pg.getE B gp [b] 0 0 0 b.length b rfl rfl rfl) Tryd.func17 rfl rfl rfl ?_)
        rintro _ _ ⟨p6, c6, rfl, rfl⟩
        try simp only [List.cons_append, List.nil_append]
        refine LW.own (fun w ho => ?_)
        have hp6 : 0 < b.length → ∃ g, p6 = some ⟨g, 0, none⟩ := (ho.slice_at (p := p6) (m := b.length) (c := c6)).2.1
        clear ho
        refine LW.q rfl (Qt.move rfl) ?_
        refine LW.q rfl (Qt.extract rfl rfl) ?_
        refine LW.q rfl (Qt.extract rfl rfl) ?_
        refine LW.q rfl (Qt.assign rfl) ?_
        refine LW.q rfl (Qt.assign rfl) ?_
        refine LW.done ?_
        refine T.seq ?_
        refine T.seq ?_
        refine T.region ?_
        refine LW.q rfl (Qt.move rfl) ?_
        refine LW.q rfl (Qt.str b (by kernel_rfl) (by kernel_rfl) rfl (fun _ ho => ho.reads_row rfl)) ?_
        refine LW.q rfl (Qt.move rfl) ?_
        refine LW.q rfl (Qt.str b (by kernel_rfl) (by kernel_rfl) rfl (hb.rd _).str) ?_
        refine LW.q rfl (Qt.neqS rfl rfl) ?_
        refine LW.done ?_
        first | refine T.condF rfl ?_ | refine T.condPF rfl ((by simp)) ?_ | refine T.condBF rfl ((by simp)) ?_
        have l2 := length_pgBytes (recs := [b]) (mark := 0) (by simp [usedR] at hok ⊢; omega)
        obtain ⟨Y, hY⟩ : ∃ Y, pgBytes [b] 0 = Y := ⟨_, rfl⟩
        rw [hY] at l2
        refine T.skip ?_
        refine T.seq ?_
        refine T.region ?_
        refine LW.q rfl (Qt.move rfl) ?_
        refine LW.e rfl (Ef.call (Pg.bytes B gp [b] 0) Tryd.func18 rfl rfl rfl ?_)
        rintro _ _ ⟨p7, c7, rfl, rfl⟩
        try simp only [List.cons_append, List.nil_append]
        rw [hY]
        refine LW.own (fun w ho => ?_)
        obtain ⟨g7, rfl⟩ := (ho.slice_at (p := p7) (m := 256) (c := c7)).2.1 (by omega)
        clear ho
        refine LW.q rfl (Qt.assign rfl) ?_
        refine LW.done ?_
        refine T.seq ?_
        refine T.region ?_
        refine LW.q rfl (Qt.move rfl) ?_
        refine LW.q rfl (Qt.str Y (by kernel_rfl) (by kernel_rfl) rfl (fun _ ho => ho.reads_row l2)) ?_
        refine LW.q rfl (Qt.assign rfl) ?_
        refine LW.done ?_
        refine T.seq ?_
        refine T.seq ?_
        refine T.region ?_
        refine LW.q rfl (Qt.move rfl) ?_
        refine LW.q rfl (Qt.len (e := 5) (sz := 1) (by kernel_rfl) rfl) ?_
        refine LW.q rfl (Qt.move rfl) ?_
        refine LW.done ?_
        refine T.block ?_
        refine T.loop (fun mz fz lz => ∃ (f0 : Fr) (i : Nat) (X : List UInt8), (i ≤ b.length ∧ X.length = b.length) ∧ mz = b.length - i ∧ fz = (upd (upd (upd (upd (upd (upd (upd f0 0 (.slice ba b.length bc)) 6 (.pointer (some ⟨gp, 0, none⟩))) 11 (.slice p6 b.length c6)) 13 (.slice (some ⟨g7, 0, none⟩) 256 c7)) 14 (.string (strOf Y))) 90 (.int .i64 b.length)) 91 (.int .i64 i)) ∧ lz = pgA gp [b] 0 :: rB (.slice p6 b.length c6) b.length X :: rB (.slice (some ⟨g7, 0, none⟩) 256 c7) 256 Y :: F) ?_ ?_
        · refine ⟨_, _, ⟨_, 0, b, ⟨Nat.zero_le _, rfl⟩, rfl, (updS rfl (updS rfl (updS rfl (updS rfl (updS rfl (updS rfl (updS rfl rfl))))))), rfl⟩, Sub.any⟩
        · skip
          rintro mz fz lz ⟨f0, i, X, ⟨hi, hX⟩, hmz, rfl, rfl⟩
          subst mz
          try simp only [List.cons_append, List.nil_append]
          refine T.seq ?_
          refine T.region ?_
          refine LW.q rfl (Qt.lss rfl rfl) ?_
          refine LW.done ?_
          refine T.seq ?_
          refine T.condP rfl (fun hlt => ?_) (fun hlt => ?_)
          · skip
            obtain ⟨g6, rfl⟩ := hp6 (by omega)
            obtain ⟨x, hx⟩ : ∃ x, X[i]? = some x := ⟨_, List.getElem?_eq_getElem (by omega)⟩
            refine T.skip ?_
            refine T.seq ?_
            refine T.block ?_
            refine T.seq ?_
            refine T.region ?_
            refine LW.q rfl (Qt.move rfl) ?_
            refine LW.q rfl (Qt.assign rfl) ?_
            refine LW.done ?_
            refine T.region ?_
            refine LW.q rfl (Qt.move rfl) ?_
            refine LW.q rfl (Qt.move rfl) ?_
            refine LW.q rfl (Qt.index _ (e := 5) (sz := 1) (by kernel_rfl) rfl rfl rfl (by omega)) ?_
            refine LW.q rfl (Qt.load (v := .int .u8 x.toNat) (by kernel_rfl) rfl (bytes_get hx)) ?_
            refine LW.q rfl (Qt.add rfl rfl (wr8_inc x)) ?_
            refine LW.q rfl (Qt.index _ (e := 5) (sz := 1) (by kernel_rfl) rfl rfl rfl (by omega)) ?_
            refine LW.e0 rfl (Ef.store1 (by kernel_rfl) rfl rfl rfl (by first | (simp; done) | (simp; omega)) ?_)
            try simp only [List.set_cons_zero, List.set_cons_succ]
            rw [bytes_set X i (x + 1)]
            refine LW.done ?_
            refine T.region ?_
            refine LW.q rfl (Qt.add rfl rfl (wr64 (by omega) (by omega))) ?_
            refine LW.q rfl (Qt.move rfl) ?_
            refine LW.done ?_
            refine ⟨_, ?_, _, ⟨_, i + 1, X.set i (x + 1), ⟨by omega, by simp [hX]⟩, rfl, (updS rfl (updS rfl (updS rfl (updS rfl (updS rfl (updS rfl (updS rfl rfl))))))), rfl⟩, Sub.any⟩
            first | omega | (simp; omega)
          · skip
            refine T.exit ?_
            refine T.seq ?_
            refine T.seq ?_
            refine T.region ?_
            refine LW.q rfl (Qt.move rfl) ?_
            refine LW.q rfl (Qt.len (e := 5) (sz := 1) (by kernel_rfl) rfl) ?_
            refine LW.q rfl (Qt.move rfl) ?_
            refine LW.done ?_
            refine T.block ?_
            refine T.loop (fun mz fz lz => ∃ (f0 : Fr) (i : Nat) (Z : List UInt8), (i ≤ 256 ∧ Z.length = 256) ∧ mz = 256 - i ∧ fz = (upd (upd (upd (upd (upd (upd f0 0 (.slice ba b.length bc)) 6 (.pointer (some ⟨gp, 0, none⟩))) 13 (.slice (some ⟨g7, 0, none⟩) 256 c7)) 14 (.string (strOf Y))) 102 (.int .i64 256)) 103 (.int .i64 i)) ∧ lz = pgA gp [b] 0 :: rB (.slice (some ⟨g7, 0, none⟩) 256 c7) 256 Z :: F) ?_ ?_
            · refine ⟨_, _, ⟨_, 0, Y, ⟨Nat.zero_le _, l2⟩, rfl, (updS rfl (updS rfl (updS rfl (updS rfl (updS rfl (updS rfl rfl)))))), rfl⟩, Sub.any⟩
            · skip
              rintro mz fz lz ⟨f0, i, Z, ⟨hi, hZ⟩, hmz, rfl, rfl⟩
              subst mz
              try simp only [List.cons_append, List.nil_append]
              refine T.seq ?_
              refine T.region ?_
              refine LW.q rfl (Qt.lss rfl rfl) ?_
              refine LW.done ?_
              refine T.seq ?_
              refine T.condP rfl (fun hlt => ?_) (fun hlt => ?_)
              · skip
                obtain ⟨x, hx⟩ : ∃ x, Z[i]? = some x := ⟨_, List.getElem?_eq_getElem (by omega)⟩
                refine T.skip ?_
                refine T.seq ?_
                refine T.block ?_
                refine T.seq ?_
                refine T.region ?_
                refine LW.q rfl (Qt.move rfl) ?_
                refine LW.q rfl (Qt.assign rfl) ?_
                refine LW.done ?_
                refine T.region ?_
                refine LW.q rfl (Qt.move rfl) ?_
                refine LW.q rfl (Qt.move rfl) ?_
                refine LW.q rfl (Qt.index _ (e := 5) (sz := 1) (by kernel_rfl) rfl rfl rfl (by omega)) ?_
                refine LW.q rfl (Qt.load (v := .int .u8 x.toNat) (by kernel_rfl) rfl (bytes_get hx)) ?_
                refine LW.q rfl (Qt.add rfl rfl (wr8_inc x)) ?_
                refine LW.q rfl (Qt.index _ (e := 5) (sz := 1) (by kernel_rfl) rfl rfl rfl (by omega)) ?_
                refine LW.e0 rfl (Ef.store1 (by kernel_rfl) rfl rfl rfl (by first | (simp; done) | (simp; omega)) ?_)
                try simp only [List.set_cons_zero, List.set_cons_succ]
                rw [bytes_set Z i (x + 1)]
                refine LW.done ?_
                refine T.region ?_
                refine LW.q rfl (Qt.add rfl rfl (wr64 (by omega) (by omega))) ?_
                refine LW.q rfl (Qt.move rfl) ?_
                refine LW.done ?_
                refine ⟨_, ?_, _, ⟨_, i + 1, Z.set i (x + 1), ⟨by omega, by simp [hZ]⟩, rfl, (updS rfl (updS rfl (updS rfl (updS rfl (updS rfl (updS rfl rfl)))))), rfl⟩, Sub.any⟩
                first | omega | (simp; omega)
              · skip
                refine T.exit ?_
                refine T.seq ?_
                refine T.region ?_
                refine LW.q rfl (Qt.move rfl) ?_
                refine LW.e rfl (Ef.call (Pg.getE B gp [b] 0 0 0 b.length b rfl rfl rfl) Tryd.func17 rfl rfl rfl ?_)
                rintro _ _ ⟨p8, c8, rfl, rfl⟩
                try simp only [List.cons_append, List.nil_append]
                refine LW.q rfl (Qt.move rfl) ?_
                refine LW.q rfl (Qt.extract rfl rfl) ?_
                refine LW.q rfl (Qt.extract rfl rfl) ?_
                refine LW.q rfl (Qt.assign rfl) ?_
                refine LW.q rfl (Qt.assign rfl) ?_
                refine LW.done ?_
                refine T.seq ?_
                refine T.region ?_
                refine LW.q rfl (Qt.move rfl) ?_
                refine LW.q rfl (Qt.str b (by kernel_rfl) (by kernel_rfl) rfl (fun _ ho => ho.reads_row rfl)) ?_
                refine LW.q rfl (Qt.move rfl) ?_
                refine LW.q rfl (Qt.str b (by kernel_rfl) (by kernel_rfl) rfl (hb.rd _).str) ?_
                refine LW.q rfl (Qt.eqlS rfl rfl) ?_
                refine LW.q rfl (Qt.move rfl) ?_
                first | refine LW.gT (t := 123) rfl rfl ?_ | refine LW.gT (t := 123) rfl (decide_eq_true ((by simp))) ?_ | refine LW.gT (t := 123) rfl ((by simp)) ?_
                refine LW.q rfl (Qt.move rfl) ?_
                refine LW.e rfl (Ef.call (Pg.bytes B gp [b] 0) Tryd.func18 rfl rfl rfl ?_)
                rintro _ _ ⟨p9, c9, rfl, rfl⟩
                try simp only [List.cons_append, List.nil_append]
                rw [hY]
                refine LW.q rfl (Qt.str Y (by kernel_rfl) (by kernel_rfl) rfl (fun _ ho => ho.reads_row l2)) ?_
                refine LW.q rfl (Qt.move rfl) ?_
                refine LW.q rfl (Qt.eqlS rfl rfl) ?_
                refine LW.q rfl (Qt.pick rfl rfl) ?_
                refine LW.q rfl (Qt.assign rfl) ?_
                refine LW.done ?_
                refine T.ret ?_
                exact ⟨.inl rfl, _, _, res [_] rfl ⟨rvT rfl, trivial⟩, ⟨by simp [outV], rfl⟩, Sub.any⟩
      · skip
        obtain ⟨e, he, he2⟩ := addR_no hok
        simp only [he]
        refine T.exit ?_
        refine T.seq ?_
        refine T.region ?_
        refine LW.e rfl (Ef.empty Cd.elemB ?_)
        rintro g48
        try simp only [List.cons_append, List.nil_append]
        refine LW.q rfl (Qt.move rfl) ?_
        refine LW.e rfl (Ef.append Cd.elemB rfl rfl (SrcOf.rd (m := s.length) (hs.rd _) (by kernel_rfl) (by simp) one_bytesV) (by unfold maxLen; omega) (by omega) ?_)
        rintro p5 c5 hp5
        try simp only [List.cons_append, List.nil_append]
        simp only [Nat.zero_add, List.nil_append]
        refine LW.own (fun w ho => ?_)
        have hc5 := ho.cap_at (p := p5) (m := s.length) (c := c5)
        clear ho
        refine LW.q rfl (Qt.assign rfl) ?_
        refine LW.done ?_
        refine T.seq ?_
        refine T.region ?_
        refine LW.q rfl (Qt.move rfl) ?_
        refine LW.e rfl (Ef.call (Pg.open_any (Pg.open B [rB (.slice p5 s.length c5) s.length s] p5 s.length c5 s (RdV.rB rfl (fun h => hp5 (by omega))) rfl hc5 (by omega))) Tryd.func15 rfl rfl rfl ?_)
        rintro _ _ rfl
        try simp only [List.cons_append, List.nil_append]
        refine LW.done ?_
        refine T.seq ?_
        refine T.seq ?_
        refine T.region ?_
        refine LW.q rfl (Qt.move rfl) ?_
        refine LW.q rfl (Qt.str s (by kernel_rfl) (by kernel_rfl) rfl (fun _ ho => ho.reads_row rfl)) ?_
        refine LW.q rfl (Qt.move rfl) ?_
        refine LW.q rfl (Qt.str s (by kernel_rfl) (by kernel_rfl) rfl (hs.rd _).str) ?_
        refine LW.q rfl (Qt.neqS rfl rfl) ?_
        refine LW.q rfl (Qt.move rfl) ?_
        first | refine LW.gF (t := 58) rfl rfl ?_ | refine LW.gF (t := 58) rfl (decide_eq_false ((by simp))) ?_ | refine LW.gF (t := 58) rfl ((by simp)) ?_
        refine LW.q rfl (Qt.move rfl) ?_
        refine LW.q rfl (Qt.move rfl) ?_
        refine LW.q rfl (Qt.len (e := 5) (sz := 1) (by kernel_rfl) rfl) ?_
        refine LW.q rfl (Qt.add rfl rfl (wr64 (by omega) (by omega))) ?_
        refine LW.q rfl (Qt.slice_nsn (b.length + 1) (e := 5) (sz := 1) (by kernel_rfl) rfl rfl (by omega) (by omega)) ?_
        refine LW.q rfl (Qt.move rfl) ?_
        refine LW.q rfl (Qt.len (e := 5) (sz := 1) (by kernel_rfl) rfl) ?_
        refine LW.q rfl (Qt.index _ (e := 5) (sz := 1) (by kernel_rfl) rfl rfl rfl (by omega)) ?_
        refine LW.q rfl (Qt.load (v := .int .u8 77) (by kernel_rfl) rfl (bytes_get (x := 77) h77)) ?_
        refine LW.q rfl (Qt.neq rfl rfl) ?_
        refine LW.q rfl (Qt.pick rfl rfl) ?_
        refine LW.done ?_
        first | refine T.condF rfl ?_ | refine T.condPF rfl (by omega) ?_ | refine T.condBF rfl (by omega) ?_
        refine T.skip ?_
        refine T.seq ?_
        refine T.seq ?_
        refine T.region ?_
        refine LW.q rfl (Qt.move rfl) ?_
        refine LW.q rfl (Qt.neq rfl rfl) ?_
        refine LW.done ?_
        first | refine T.condT rfl ?_ | refine T.condPT rfl (by omega) ?_ | refine T.condBT rfl (by omega) ?_
        refine T.seq ?_
        refine T.region ?_
        refine LW.q rfl (Qt.move rfl) ?_
        refine LW.e rfl (Ef.call (Pg.count B gp [] 0) Tryd.func16 rfl rfl rfl ?_)
        rintro _ _ ⟨rfl, rfl⟩
        try simp only [List.cons_append, List.nil_append]
        refine LW.q rfl (Qt.eql rfl rfl) ?_
        refine LW.q rfl (Qt.assign rfl) ?_
        refine LW.done ?_
        refine T.ret ?_
        exact ⟨.inl rfl, _, _, res [_] rfl ⟨rvT rfl, trivial⟩, ⟨rfl, rfl⟩, Sub.any⟩
end Go.Proofs.YtjjhbpjbngdlnaaDoor
