/- The statement WalKeeps. Conditions: that what is handed in can be read; sizes. -/
import Derived.Test.YtjjhbpjbngdlnaaDoorWlK
set_option linter.unusedSimpArgs false
set_option linter.unusedVariables false
namespace Go.Proofs.YtjjhbpjbngdlnaaDoor
open Go.RowKit

theorem rec_own {B : Base} {w : World} {r : Rec} {l : List Assn} (H : Own B w (recsA [r] :: l)) : Own B w (rB (.slice r.p r.b.length r.c) r.b.length r.b :: l) := H.map fun _ k => Has.open_sepL (l := [recA r]) k
section
variable {P : Program} {B : Base} {n : Nat} {l r : List Assn} {f : Fr} {Φ : Post} {c : Code}
theorem T.openRec (m : Nat) (p : Option Addr) (cc : Nat) (b : List UInt8) [k : TakeA (recsA (List.map WRec.r [⟨m, p, cc, b⟩])) l r] (h : T P B n c Φ f (rB (.slice p b.length cc) b.length b :: r)) : T P B n c Φ f l := ⟨fun Q w hf ho => h.run Q w hf (rec_own (ho.take (k := k)))⟩
end
theorem addW_no {W : Wl} {d : List UInt8} (hd : ¬ OkD d) : ∃ code, addW W d = (W, 0, code) ∧ code ≠ 0 := by
  rcases addW_cases W d with (⟨_, e⟩ | ⟨_, _, e⟩ | ⟨_, _, _, e⟩) | ⟨h, _⟩
  · exact ⟨_, e, by omega⟩
  · exact ⟨_, e, by omega⟩
  · exact ⟨_, e, by omega⟩
  · exact absurd h hd

set_option maxHeartbeats 4000000 in
set_option maxRecDepth 100000 in
theorem Wl.keeps (B : Base) (vb : Value) (b : List UInt8) (hb : RoS B vb (bytesV b)) (hlb : b.length ≤ 1048576) : Fn Tryd.prog B 7 #[vb] [] (fun v l => v = .bool true ∧ l = []) := by
  obtain ⟨ba, bc, rfl⟩ := (hb.rd []).form (m := b.length) (by simp)
  refine Fn.enter1 146 Tryd.func7 rfl rfl (Nat.le_of_ble_eq_true rfl) (fun F => ?_)
  try simp only [List.cons_append, List.nil_append]
  refine T.seq ?_
  refine T.region ?_
  refine LW.q rfl (Qt.assign rfl) ?_
  refine LW.done ?_
  refine T.seq ?_
  refine T.seq ?_
  refine T.region ?_
  refine LW.e rfl (Ef.call (Wl.awake B) Tryd.func23 rfl rfl rfl ?_)
  rintro _ _ ⟨rfl, rfl⟩
  try simp only [List.cons_append, List.nil_append]
  first | refine LW.q rfl (Qt.notP rfl) ?_ | refine LW.q rfl (Qt.notB rfl) ?_
  refine LW.done ?_
  first | refine T.condF rfl ?_ | refine T.condPF rfl (by omega) ?_ | refine T.condBF rfl (by omega) ?_
  refine T.skip ?_
  refine T.seq ?_
  refine T.region ?_
  refine LW.e rfl (Ef.call (Dk.newF B 8 8 rfl (by omega) (by omega)) Tryd.func24 rfl rfl rfl ?_)
  rintro _ _ ⟨bd, rfl, rfl⟩
  try simp only [List.cons_append, List.nil_append]
  refine LW.q rfl (Qt.move rfl) ?_
  refine LW.q rfl (Qt.extract rfl rfl) ?_
  refine LW.q rfl (Qt.extract rfl rfl) ?_
  refine LW.q rfl (Qt.assign rfl) ?_
  refine LW.q rfl (Qt.assign rfl) ?_
  refine LW.done ?_
  refine T.seq ?_
  refine T.seq ?_
  refine T.region ?_
  refine LW.q rfl (Qt.move rfl) ?_
  first | refine LW.q rfl (Qt.eqlNil (by kernel_rfl) rfl rfl) ?_ | refine LW.q rfl (Qt.eqlNN (by kernel_rfl) rfl rfl) ?_
  refine LW.done ?_
  first | refine T.condF rfl ?_ | refine T.condPF rfl (by omega) ?_ | refine T.condBF rfl (by omega) ?_
  refine T.skip ?_
  refine T.seq ?_
  refine T.region ?_
  refine LW.q rfl (Qt.move rfl) ?_
  refine LW.e rfl (Ef.call (Wl.openText B bd ⟨List.replicate 8 zs, []⟩ 0 8 [] 0 8 rfl rfl (by omega) (by simp) (by simp) (Secs.new (by omega)) (by simp) (by simp [logB])) Tryd.func25 rfl rfl rfl ?_)
  rintro _ _ ⟨gl, q, cq, R, D1, e1, e2, e3, e4, e5, e6, rfl, rfl⟩
  try simp only [List.cons_append, List.nil_append]
  obtain rfl := rec0 e1
  refine LW.q rfl (Qt.move rfl) ?_
  refine LW.q rfl (Qt.extract rfl rfl) ?_
  refine LW.q rfl (Qt.extract rfl rfl) ?_
  refine LW.q rfl (Qt.extract rfl rfl) ?_
  refine LW.q rfl (Qt.assign rfl) ?_
  refine LW.q rfl (Qt.assign rfl) ?_
  refine LW.q rfl (Qt.assign rfl) ?_
  refine LW.done ?_
  refine T.seq ?_
  refine T.seq ?_
  refine T.region ?_
  refine LW.q rfl (Qt.move rfl) ?_
  first | refine LW.q rfl (Qt.eqlNil (by kernel_rfl) rfl rfl) ?_ | refine LW.q rfl (Qt.eqlNN (by kernel_rfl) rfl rfl) ?_
  refine LW.done ?_
  first | refine T.condF rfl ?_ | refine T.condPF rfl (by omega) ?_ | refine T.condBF rfl (by omega) ?_
  have hl0 : D1.secs.length = 8 := by rw [e3]; rfl
  refine T.skip ?_
  refine T.seq ?_
  refine T.region ?_
  refine LW.e rfl (Ef.empty Cd.elemB ?_)
  rintro g32
  try simp only [List.cons_append, List.nil_append]
  refine LW.q rfl (Qt.move rfl) ?_
  refine LW.e rfl (Ef.append Cd.elemB rfl rfl (SrcOf.rd (m := b.length) (hb.rd _) (by kernel_rfl) (by simp) one_bytesV) (by unfold maxLen; omega) (by omega) ?_)
  rintro p1 c1 hp1
  try simp only [List.cons_append, List.nil_append]
  simp only [Nat.zero_add, List.nil_append]
  refine LW.e rfl (Ef.one [_] (e := 5) (sz := 1) (by kernel_rfl) ⟨.int .u8 0, by kernel_rfl, rfl⟩ rfl rfl rfl (by omega) (by omega) ?_)
  intro g35
  refine LW.e rfl (Ef.append Cd.elemB rfl rfl (SrcOf.blk (by kernel_rfl) rfl (by simp [Value.oneCell'])) (by unfold maxLen; omega) (by omega) ?_)
  rintro p2 c2 hp2
  try simp only [List.cons_append, List.nil_append]
  obtain ⟨g2, rfl⟩ := hp2 (by omega)
  rw [show bytesV b ++ [Value.int .u8 77] = bytesV (b ++ [77]) by simp [bytesV]]
  refine LW.own (fun w ho => ?_)
  have hc2 := ho.cap_at (p := some ⟨g2, 0, none⟩) (m := b.length + 1) (c := c2)
  clear ho
  refine LW.q rfl (Qt.move rfl) ?_
  refine LW.q rfl (Qt.len (e := 5) (sz := 1) (by kernel_rfl) rfl) ?_
  refine LW.q rfl (Qt.slice_nsn b.length (e := 5) (sz := 1) (by kernel_rfl) rfl rfl rfl (by omega)) ?_
  refine LW.q rfl (Qt.assign rfl) ?_
  refine LW.done ?_
  refine T.seq ?_
  refine T.region ?_
  refine LW.q rfl (Qt.move rfl) ?_
  refine LW.q rfl (Qt.move rfl) ?_
  refine LW.q rfl (Qt.move rfl) ?_
  refine LW.e rfl (Ef.lit [_, _] (e := 22) (by kernel_rfl) (by kernel_rfl) rfl (by simp [Value.cells]) rfl (by omega) (by omega) ?_)
  intro g44
  have hmine : RdV B [rB (.slice (some ⟨g2, 0, none⟩) (b.length + 1) c2) (b.length + 1) (b ++ [77])] (.slice (some ⟨g2, 0, none⟩) b.length c2) (bytesV b) := by have := (RdV.rB (p := some ⟨g2, 0, none⟩) (c := c2) (b := b ++ [77]) (m := b.length + 1) (by simp) (fun _ => ⟨_, rfl⟩)).takeB (B := B) b.length c2 (by simp); rwa [List.take_left'  rfl] at this
  have hmine2 : RdV B [blk g44 [.slice (some ⟨g2, 0, none⟩) b.length c2, .slice (some ⟨g2, 0, none⟩) b.length c2] 22, rB (.slice (some ⟨g2, 0, none⟩) (b.length + 1) c2) (b.length + 1) (b ++ [77])] (.slice (some ⟨g2, 0, none⟩) b.length c2) (bytesV b) := hmine.mono (fun w ho => ho.tl)
  refine LW.e rfl (Ef.call (Wl.add B [blk g44 [.slice (some ⟨g2, 0, none⟩) b.length c2, .slice (some ⟨g2, 0, none⟩) b.length c2] 22, rB (.slice (some ⟨g2, 0, none⟩) (b.length + 1) c2) (b.length + 1) (b ++ [77])] gl bd (mkW 0 8 [] (logB 0 0 []).length) (some ⟨g44, 0, none⟩) 2 [b, b] 2 rfl (PartsV.blk2 hmine2 hmine2) (by simp) (by simp) (b ++ b) (by simp) (by simp; omega) (by simp [mkW]) (by simp [mkW, logB])) Tryd.func26 rfl rfl rfl ?_)
  rintro _ _ ⟨rfl, rfl⟩
  try simp only [List.cons_append, List.nil_append]
  refine LW.q rfl (Qt.move rfl) ?_
  refine LW.q rfl (Qt.extract rfl rfl) ?_
  refine LW.q rfl (Qt.extract rfl rfl) ?_
  refine LW.q rfl (Qt.assign rfl) ?_
  refine LW.q rfl (Qt.assign rfl) ?_
  refine LW.done ?_
  refine T.seq ?_
  refine T.seq ?_
  refine T.region ?_
  refine LW.q rfl (Qt.move rfl) ?_
  refine LW.q rfl (Qt.str b (by kernel_rfl) (by kernel_rfl) rfl (hmine.mono (fun w ho => ho.map Sub.any)).str) ?_
  refine LW.q rfl (Qt.move rfl) ?_
  refine LW.q rfl (Qt.str b (by kernel_rfl) (by kernel_rfl) rfl (hb.rd _).str) ?_
  refine LW.q rfl (Qt.neqS rfl rfl) ?_
  refine LW.q rfl (Qt.move rfl) ?_
  first | refine LW.gF (t := 53) rfl rfl ?_ | refine LW.gF (t := 53) rfl (decide_eq_false ((by simp))) ?_ | refine LW.gF (t := 53) rfl ((by simp)) ?_
  refine LW.q rfl (Qt.move rfl) ?_
  refine LW.q rfl (Qt.move rfl) ?_
  refine LW.q rfl (Qt.len (e := 5) (sz := 1) (by kernel_rfl) rfl) ?_
  refine LW.q rfl (Qt.add rfl rfl (wr64 (by omega) (by omega))) ?_
  refine LW.q rfl (Qt.slice_nsn (b.length + 1) (e := 5) (sz := 1) (by kernel_rfl) rfl rfl (by omega) (by omega)) ?_
  refine LW.q rfl (Qt.move rfl) ?_
  refine LW.q rfl (Qt.len (e := 5) (sz := 1) (by kernel_rfl) rfl) ?_
  refine LW.q rfl (Qt.index _ (e := 5) (sz := 1) (by kernel_rfl) rfl rfl rfl (by omega)) ?_
  refine LW.q rfl (Qt.load (v := .int .u8 77) (by kernel_rfl) rfl (bytes_get (x := 77) (by simp))) ?_
  refine LW.q rfl (Qt.neq rfl rfl) ?_
  refine LW.q rfl (Qt.pick rfl rfl) ?_
  refine LW.done ?_
  first | refine T.condF rfl ?_ | refine T.condPF rfl (by omega) ?_ | refine T.condBF rfl (by omega) ?_
  refine T.skip ?_
  refine T.seq ?_
  refine T.seq ?_
  refine T.region ?_
  refine LW.q rfl (Qt.move rfl) ?_
  refine LW.q rfl (Qt.len (e := 5) (sz := 1) (by kernel_rfl) rfl) ?_
  refine LW.q rfl (Qt.move rfl) ?_
  refine LW.done ?_
  refine T.block ?_
  refine T.loop (fun mz fz lz => ∃ (f0 : Fr) (i : Nat) (acc : List UInt8), (i ≤ b.length ∧ acc.length = b.length + 1) ∧ mz = b.length - i ∧ fz = (upd (upd (upd (upd (upd (upd (upd f0 0 (.slice ba b.length bc)) 3 (.pointer (some ⟨bd, 0, none⟩))) 5 (.pointer (some ⟨gl, 0, none⟩))) 8 (.slice (some ⟨g2, 0, none⟩) b.length c2)) 10 (.int .i64 (addW (mkW 0 8 [] (logB 0 0 []).length) (b ++ b)).2.2)) 66 (.int .i64 b.length)) 67 (.int .i64 i)) ∧ lz = wlA gl bd (addW (mkW 0 8 [] (logB 0 0 []).length) (b ++ b)).1 :: rB (.slice (some ⟨g2, 0, none⟩) (b.length + 1) c2) (b.length + 1) acc :: dskA bd D1 :: F) ?_ ?_
  · refine ⟨_, _, ⟨_, 0, b ++ [77], ⟨Nat.zero_le _, by simp⟩, rfl, (updS rfl (updS rfl (updS rfl (updS rfl (updS rfl (updS rfl (updS rfl rfl))))))), rfl⟩, Sub.any⟩
  · skip
    rintro mz fz lz ⟨f0, i, acc, ⟨hi, hacc⟩, hmz, rfl, rfl⟩
    subst mz
    try simp only [List.cons_append, List.nil_append]
    refine T.seq ?_
    refine T.region ?_
    refine LW.q rfl (Qt.lss rfl rfl) ?_
    refine LW.done ?_
    refine T.seq ?_
    refine T.condP rfl (fun hlt => ?_) (fun hlt => ?_)
    · skip
      obtain ⟨x, hx⟩ : ∃ x, acc[i]? = some x := ⟨_, List.getElem?_eq_getElem (by omega)⟩
      refine T.skip ?_
      refine T.seq ?_
      refine T.block ?_
      refine T.seq ?_
      refine T.region ?_
      refine LW.q rfl (Qt.move rfl) ?_
      refine LW.q rfl (Qt.assign rfl) ?_
      refine LW.done ?_
      refine T.region ?_
      refine LW.q rfl (Qt.move rfl) ?_
      refine LW.q rfl (Qt.move rfl) ?_
      refine LW.q rfl (Qt.index _ (e := 5) (sz := 1) (by kernel_rfl) rfl rfl rfl (by omega)) ?_
      refine LW.q rfl (Qt.load (v := .int .u8 x.toNat) (by kernel_rfl) rfl (bytes_get hx)) ?_
      refine LW.q rfl (Qt.add rfl rfl (wr8_inc x)) ?_
      refine LW.q rfl (Qt.index _ (e := 5) (sz := 1) (by kernel_rfl) rfl rfl rfl (by omega)) ?_
      refine LW.e0 rfl (Ef.store1 (by kernel_rfl) rfl rfl rfl (by first | (simp; done) | (simp; omega)) ?_)
      try simp only [List.set_cons_zero, List.set_cons_succ]
      rw [bytes_set acc i (x + 1)]
      refine LW.done ?_
      refine T.region ?_
      refine LW.q rfl (Qt.add rfl rfl (wr64 (by omega) (by omega))) ?_
      refine LW.q rfl (Qt.move rfl) ?_
      refine LW.done ?_
      refine ⟨_, ?_, _, ⟨_, i + 1, acc.set i (x + 1), ⟨by omega, by simp [hacc]⟩, rfl, (updS rfl (updS rfl (updS rfl (updS rfl (updS rfl (updS rfl (updS rfl rfl))))))), rfl⟩, Sub.any⟩
      first | omega | (simp; omega)
    · skip
      clear hlt
      by_cases hok : OkD (b ++ b)
      · skip
        have hd2 := hok.2
        simp only [show (logB 0 0 []).length = 0 from rfl, addW_mk (first := 0) (count := 8) (ds := []) (dur := 0) hok (by simp only [logB, List.length_nil]; omega), List.nil_append]
        have hL : (logB 0 0 [b ++ b]).length = 8 + (b ++ b).length := by simp [logB, length_recB]
        obtain ⟨f1, f2, f3⟩ := flushE_ok (W := mkW 0 8 [b ++ b] 0) e2 (by simp [mkW]; omega) (by simp only [mkW]; omega) (Nat.zero_le _) e4
        have f4 := flushE_secs (W := mkW 0 8 [b ++ b] 0) e2 (by simp [mkW]; omega) e5 (Nat.zero_le _) (by simp only [mkW]; omega)
        obtain ⟨D2, hD2⟩ : ∃ D2, flushE (mkW 0 8 [b ++ b] 0) D1 = D2 := ⟨_, rfl⟩
        rw [hD2] at f1 f2 f3 f4
        refine T.exit ?_
        refine T.seq ?_
        refine T.region ?_
        refine LW.q rfl (Qt.move rfl) ?_
        refine LW.e rfl (Ef.call (Wl.flush B gl bd (mkW 0 8 [b ++ b] 0) D1 (by simp [mkW]; omega) (by omega) (by simp only [mkW]; omega) (Nat.zero_le _) (by rw [e4]; simp)) Tryd.func27 rfl rfl rfl ?_)
        rintro _ _ ⟨rfl, rfl⟩
        try simp only [List.cons_append, List.nil_append]
        rw [hD2, flushed_mk]
        refine LW.done ?_
        refine T.seq ?_
        refine T.region ?_
        refine LW.q rfl (Qt.move rfl) ?_
        refine LW.e rfl (Ef.call (Wl.openText B bd D2 0 8 [b ++ b] 0 8 rfl rfl (by omega) (by omega) (by rw [f3]; simp) f4 (by simpa using hok) (by omega)) Tryd.func25 rfl rfl rfl ?_)
        rintro _ _ ⟨g3, q3, cq3, R3, D3, k1, k2, k3, k4, k5, k6, rfl, rfl⟩
        try simp only [List.cons_append, List.nil_append]
        obtain ⟨p3, c3, rfl⟩ := rec1 rfl k1
        rw [show [b ++ b].length = 1 from rfl]
        refine LW.own (fun w ho => ?_)
        obtain ⟨gq, rfl⟩ : ∃ gq, q3 = some ⟨gq, 0, none⟩ := (ho.slice_at (p := q3) (m := 1) (c := cq3)).2.1 (by omega)
        have hro : RecOk (List.map WRec.r [⟨8 + (b ++ b).length, p3, c3, b ++ b⟩]) := ho.tl.recOk
        clear ho
        refine LW.q rfl (Qt.move rfl) ?_
        refine LW.q rfl (Qt.extract rfl rfl) ?_
        refine LW.q rfl (Qt.extract rfl rfl) ?_
        refine LW.q rfl (Qt.extract rfl rfl) ?_
        refine LW.q rfl (Qt.assign rfl) ?_
        refine LW.q rfl (Qt.assign rfl) ?_
        refine LW.q rfl (Qt.assign rfl) ?_
        refine LW.done ?_
        refine T.seq ?_
        refine T.seq ?_
        refine T.region ?_
        refine LW.q rfl (Qt.move rfl) ?_
        refine LW.q rfl (Qt.neq rfl rfl) ?_
        refine LW.done ?_
        first | refine T.condF rfl ?_ | refine T.condPF rfl (by omega) ?_ | refine T.condBF rfl (by omega) ?_
        refine T.skip ?_
        refine T.seq ?_
        refine T.seq ?_
        refine T.drawAll 16 (by kernel_rfl) (Nat.le_of_ble_eq_true rfl) (by kernel_rfl) ?_
        refine RW.q 0 rfl rfl (by kernel_rfl) (Sub.refl _) (Qt.move rfl) ?_
        refine RW.q 1 rfl rfl (by kernel_rfl) (Sub.refl _) (Qt.len (e := 59) (sz := 2) (by kernel_rfl) rfl) ?_
        refine RW.q 2 rfl rfl (by kernel_rfl) (Sub.refl _) (Qt.neq rfl rfl) ?_
        refine RW.q 3 rfl rfl (by kernel_rfl) (Sub.refl _) (Qt.move rfl) ?_
        first | refine RW.gF (t := 93) rfl rfl ?_ | refine RW.gF (t := 93) rfl (decide_eq_false (by omega)) ?_ | refine RW.gF (t := 93) rfl (by omega) ?_
        refine RW.q 4 rfl rfl (by kernel_rfl) (Sub.refl _) (Qt.move rfl) ?_
        refine RW.q 5 rfl rfl (by kernel_rfl) (Sub.refl _) (Qt.index 0 (e := 59) (sz := 2) (by kernel_rfl) rfl rfl rfl (by omega)) ?_
        refine RW.q 6 rfl rfl (by kernel_rfl) (Sub.refl _) (Qt.fieldAddr (off := 1) (by kernel_rfl) rfl) ?_
        first | refine RW.q 7 rfl rfl (by kernel_rfl) (Sub.refl _) (Qt.load (by kernel_rfl) rfl rfl) ?_ | refine RW.q 7 rfl rfl (by kernel_rfl) (Sub.refl _) (Qt.load (by kernel_rfl) rfl (map_at _ _ _ (by omega))) ?_ | refine RW.q 7 rfl rfl (by kernel_rfl) (Sub.refl _) (Qt.load (by kernel_rfl) rfl (flat_cell0 _ _ _ (by intros; rfl) _ (by omega) (by rfl))) ?_ | refine RW.q 7 rfl rfl (by kernel_rfl) (Sub.refl _) (Qt.load (by kernel_rfl) rfl (flat_cell _ _ _ (by intros; rfl) _ _ (by omega) (by rfl))) ?_ | refine RW.q 7 rfl rfl (by kernel_rfl) (Sub.refl _) (Qt.load (by kernel_rfl) rfl (bytes_at _ _ (by omega))) ?_
        refine RW.q 8 rfl rfl (by kernel_rfl) (Sub.refl _) (Qt.str (b ++ b) (by kernel_rfl) (by kernel_rfl) rfl (fun w ho => (RdV.rec hro (j := 0) Nat.one_pos).reads w (ho.map Sub.any))) ?_
        refine RW.q 9 rfl rfl (by kernel_rfl) (Sub.refl _) (Qt.move rfl) ?_
        refine RW.q 10 rfl rfl (by kernel_rfl) (Sub.refl _) (Qt.str b (by kernel_rfl) (by kernel_rfl) rfl (hb.rd _).str) ?_
        refine RW.q 11 rfl rfl (by kernel_rfl) (Sub.refl _) (Qt.move rfl) ?_
        refine RW.q 12 rfl rfl (by kernel_rfl) (Sub.refl _) (Qt.str b (by kernel_rfl) (by kernel_rfl) rfl (hb.rd _).str) ?_
        refine RW.q 13 rfl rfl (by kernel_rfl) (Sub.refl _) (Qt.addS rfl rfl (by omega)) ?_
        refine RW.q 14 rfl rfl (by kernel_rfl) (Sub.refl _) (Qt.neqS rfl rfl) ?_
        refine RW.q 15 rfl rfl (by kernel_rfl) (Sub.refl _) (Qt.pick rfl rfl) ?_
        refine RW.done (by rfl) ?_
        simp only [List.drop_succ_cons, List.drop_zero, List.drop_nil]
        refine LW.done ?_
        first | refine T.condF rfl ?_ | refine T.condPF rfl ((by simp)) ?_ | refine T.condBF rfl ((by simp)) ?_
        refine T.openRec (8 + (b ++ b).length) p3 c3 (b ++ b) ?_
        refine T.skip ?_
        refine T.seq ?_
        refine T.seq ?_
        refine T.region ?_
        refine LW.q rfl (Qt.move rfl) ?_
        refine LW.q rfl (Qt.index 0 (e := 59) (sz := 2) (by kernel_rfl) rfl rfl rfl (by omega)) ?_
        refine LW.q rfl (Qt.fieldAddr (off := 1) (by kernel_rfl) rfl) ?_
        refine LW.q rfl (Qt.load (v := .slice p3 (b ++ b).length c3) (by kernel_rfl) rfl rfl) ?_
        refine LW.q rfl (Qt.len (e := 5) (sz := 1) (by kernel_rfl) rfl) ?_
        refine LW.q rfl (Qt.move rfl) ?_
        refine LW.done ?_
        refine T.block ?_
        refine T.loop (fun mz fz lz => ∃ (f0 : Fr) (i : Nat) (X : List UInt8), (i ≤ (b ++ b).length ∧ X.length = (b ++ b).length) ∧ mz = (b ++ b).length - i ∧ fz = (upd (upd (upd (upd (upd f0 0 (.slice ba b.length bc)) 3 (.pointer (some ⟨bd, 0, none⟩))) 13 (.slice (some ⟨gq, 0, none⟩) 1 cq3)) 110 (.int .i64 (b ++ b).length)) 111 (.int .i64 i)) ∧ lz = rB (.slice p3 (b ++ b).length c3) (b ++ b).length X :: wrecR (some ⟨gq, 0, none⟩) 1 cq3 [⟨8 + (b ++ b).length, p3, c3, b ++ b⟩] :: dskA bd D3 :: F) ?_ ?_
        · refine ⟨_, _, ⟨_, 0, b ++ b, ⟨Nat.zero_le _, rfl⟩, rfl, (updS rfl (updS rfl (updS rfl (updS rfl (updS rfl rfl))))), rfl⟩, Sub.any⟩
        · skip
          rintro mz fz lz ⟨f0, i, X, ⟨hi2, hX⟩, hmz, rfl, rfl⟩
          subst mz
          try simp only [List.cons_append, List.nil_append]
          refine T.seq ?_
          refine T.region ?_
          refine LW.q rfl (Qt.lss rfl rfl) ?_
          refine LW.done ?_
          refine T.seq ?_
          refine T.condP rfl (fun hlt => ?_) (fun hlt => ?_)
          · skip
            refine T.own (fun w ho => ?_)
            obtain ⟨g6, rfl⟩ : ∃ g6, p3 = some ⟨g6, 0, none⟩ := (ho.slice_at (p := p3) (m := (b ++ b).length) (c := c3)).2.1 (by omega)
            clear ho
            obtain ⟨x, hx⟩ : ∃ x, X[i]? = some x := ⟨_, List.getElem?_eq_getElem (by omega)⟩
            refine T.skip ?_
            refine T.seq ?_
            refine T.block ?_
            refine T.seq ?_
            refine T.region ?_
            refine LW.q rfl (Qt.move rfl) ?_
            refine LW.q rfl (Qt.assign rfl) ?_
            refine LW.done ?_
            refine T.region ?_
            refine LW.q rfl (Qt.move rfl) ?_
            refine LW.q rfl (Qt.index 0 (e := 59) (sz := 2) (by kernel_rfl) rfl rfl rfl (by omega)) ?_
            refine LW.q rfl (Qt.fieldAddr (off := 1) (by kernel_rfl) rfl) ?_
            refine LW.q rfl (Qt.load (v := .slice (some ⟨g6, 0, none⟩) (b ++ b).length c3) (by kernel_rfl) rfl rfl) ?_
            refine LW.q rfl (Qt.move rfl) ?_
            refine LW.q rfl (Qt.index _ (e := 5) (sz := 1) (by kernel_rfl) rfl rfl rfl (by omega)) ?_
            refine LW.q rfl (Qt.load (v := .int .u8 x.toNat) (by kernel_rfl) rfl (bytes_get hx)) ?_
            refine LW.q rfl (Qt.add rfl rfl (wr8_inc x)) ?_
            refine LW.q rfl (Qt.index _ (e := 5) (sz := 1) (by kernel_rfl) rfl rfl rfl (by omega)) ?_
            refine LW.e0 rfl (Ef.store1 (by kernel_rfl) rfl rfl rfl (by first | (simp; done) | (simp; omega)) ?_)
            try simp only [List.set_cons_zero, List.set_cons_succ]
            rw [bytes_set X i (x + 1)]
            refine LW.done ?_
            refine T.region ?_
            refine LW.q rfl (Qt.add rfl rfl (wr64 (by omega) (by omega))) ?_
            refine LW.q rfl (Qt.move rfl) ?_
            refine LW.done ?_
            refine ⟨_, ?_, _, ⟨_, i + 1, X.set i (x + 1), ⟨by omega, by simp [hX]⟩, rfl, (updS rfl (updS rfl (updS rfl (updS rfl (updS rfl rfl))))), rfl⟩, Sub.any⟩
            first | omega | (simp; omega)
          · skip
            refine T.exit ?_
            refine T.seq ?_
            refine T.region ?_
            refine LW.q rfl (Qt.move rfl) ?_
            refine LW.e rfl (Ef.call (Wl.openText B bd D3 0 8 [b ++ b] 0 8 rfl rfl (by omega) (by omega) (by rw [k4]; simp) k5 (by simpa using hok) (by omega)) Tryd.func25 rfl rfl rfl ?_)
            rintro _ _ ⟨g4, q4, cq4, R4, D4, m1, m2, m3, m4, m5, m6, rfl, rfl⟩
            try simp only [List.cons_append, List.nil_append]
            obtain ⟨p4, c4, rfl⟩ := rec1 rfl m1
            rw [show [b ++ b].length = 1 from rfl]
            refine LW.own (fun w ho => ?_)
            obtain ⟨gq4, rfl⟩ : ∃ gq, q4 = some ⟨gq, 0, none⟩ := (ho.slice_at (p := q4) (m := 1) (c := cq4)).2.1 (by omega)
            have hro4 : RecOk (List.map WRec.r [⟨8 + (b ++ b).length, p4, c4, b ++ b⟩]) := ho.tl.recOk
            clear ho
            refine LW.q rfl (Qt.move rfl) ?_
            refine LW.q rfl (Qt.extract rfl rfl) ?_
            refine LW.q rfl (Qt.extract rfl rfl) ?_
            refine LW.q rfl (Qt.extract rfl rfl) ?_
            refine LW.q rfl (Qt.assign rfl) ?_
            refine LW.done ?_
            refine T.seq ?_
            refine T.drawAll 16 (by kernel_rfl) (Nat.le_of_ble_eq_true rfl) (by kernel_rfl) ?_
            refine RW.q 0 rfl rfl (by kernel_rfl) (Sub.refl _) (Qt.move rfl) ?_
            refine RW.q 1 rfl rfl (by kernel_rfl) (Sub.refl _) (Qt.len (e := 59) (sz := 2) (by kernel_rfl) rfl) ?_
            refine RW.q 2 rfl rfl (by kernel_rfl) (Sub.refl _) (Qt.eql rfl rfl) ?_
            refine RW.q 3 rfl rfl (by kernel_rfl) (Sub.refl _) (Qt.move rfl) ?_
            first | refine RW.gT (t := 133) rfl rfl ?_ | refine RW.gT (t := 133) rfl (decide_eq_true (by omega)) ?_ | refine RW.gT (t := 133) rfl (by omega) ?_
            refine RW.q 4 rfl rfl (by kernel_rfl) (Sub.refl _) (Qt.move rfl) ?_
            refine RW.q 5 rfl rfl (by kernel_rfl) (Sub.refl _) (Qt.index 0 (e := 59) (sz := 2) (by kernel_rfl) rfl rfl rfl (by omega)) ?_
            refine RW.q 6 rfl rfl (by kernel_rfl) (Sub.refl _) (Qt.fieldAddr (off := 1) (by kernel_rfl) rfl) ?_
            first | refine RW.q 7 rfl rfl (by kernel_rfl) (Sub.refl _) (Qt.load (by kernel_rfl) rfl rfl) ?_ | refine RW.q 7 rfl rfl (by kernel_rfl) (Sub.refl _) (Qt.load (by kernel_rfl) rfl (map_at _ _ _ (by omega))) ?_ | refine RW.q 7 rfl rfl (by kernel_rfl) (Sub.refl _) (Qt.load (by kernel_rfl) rfl (flat_cell0 _ _ _ (by intros; rfl) _ (by omega) (by rfl))) ?_ | refine RW.q 7 rfl rfl (by kernel_rfl) (Sub.refl _) (Qt.load (by kernel_rfl) rfl (flat_cell _ _ _ (by intros; rfl) _ _ (by omega) (by rfl))) ?_ | refine RW.q 7 rfl rfl (by kernel_rfl) (Sub.refl _) (Qt.load (by kernel_rfl) rfl (bytes_at _ _ (by omega))) ?_
            refine RW.q 8 rfl rfl (by kernel_rfl) (Sub.refl _) (Qt.str (b ++ b) (by kernel_rfl) (by kernel_rfl) rfl (fun w ho => (RdV.rec hro4 (j := 0) Nat.one_pos).reads w (ho.map Sub.any))) ?_
            refine RW.q 9 rfl rfl (by kernel_rfl) (Sub.refl _) (Qt.move rfl) ?_
            refine RW.q 10 rfl rfl (by kernel_rfl) (Sub.refl _) (Qt.str b (by kernel_rfl) (by kernel_rfl) rfl (hb.rd _).str) ?_
            refine RW.q 11 rfl rfl (by kernel_rfl) (Sub.refl _) (Qt.move rfl) ?_
            refine RW.q 12 rfl rfl (by kernel_rfl) (Sub.refl _) (Qt.str b (by kernel_rfl) (by kernel_rfl) rfl (hb.rd _).str) ?_
            refine RW.q 13 rfl rfl (by kernel_rfl) (Sub.refl _) (Qt.addS rfl rfl (by omega)) ?_
            refine RW.q 14 rfl rfl (by kernel_rfl) (Sub.refl _) (Qt.eqlS rfl rfl) ?_
            refine RW.q 15 rfl rfl (by kernel_rfl) (Sub.refl _) (Qt.pick rfl rfl) ?_
            refine RW.done (by rfl) ?_
            simp only [List.drop_succ_cons, List.drop_zero, List.drop_nil]
            refine LW.q rfl (Qt.assign rfl) ?_
            refine LW.done ?_
            refine T.ret ?_
            exact ⟨.inl rfl, _, _, res [_] rfl ⟨rvT rfl, trivial⟩, ⟨by simp [outV], rfl⟩, Sub.any⟩
      · skip
        obtain ⟨code, hc, hc0⟩ := addW_no (W := mkW 0 8 [] 0) hok
        simp only [show (logB 0 0 []).length = 0 from rfl, hc]
        have f0 : flushE (mkW 0 8 [] 0) D1 = D1 := rfl
        refine T.exit ?_
        refine T.seq ?_
        refine T.region ?_
        refine LW.q rfl (Qt.move rfl) ?_
        refine LW.e rfl (Ef.call (Wl.flush B gl bd (mkW 0 8 [] 0) D1 (by simp [mkW]; omega) (by omega) (by simp [mkW, logB]) (Nat.zero_le _) (by rw [e4]; simp)) Tryd.func27 rfl rfl rfl ?_)
        rintro _ _ ⟨rfl, rfl⟩
        try simp only [List.cons_append, List.nil_append]
        rw [f0, flushed_mk]
        refine LW.done ?_
        refine T.seq ?_
        refine T.region ?_
        refine LW.q rfl (Qt.move rfl) ?_
        refine LW.e rfl (Ef.call (Wl.openText B bd D1 0 8 [] 0 8 rfl rfl (by omega) (by omega) (by rw [e4]; simp) e5 (by simp) (by simp [logB])) Tryd.func25 rfl rfl rfl ?_)
        rintro _ _ ⟨g3, q3, cq3, R3, D3, k1, k2, k3, k4, k5, k6, rfl, rfl⟩
        try simp only [List.cons_append, List.nil_append]
        refine LW.q rfl (Qt.move rfl) ?_
        refine LW.q rfl (Qt.extract rfl rfl) ?_
        refine LW.q rfl (Qt.extract rfl rfl) ?_
        refine LW.q rfl (Qt.extract rfl rfl) ?_
        refine LW.q rfl (Qt.assign rfl) ?_
        refine LW.q rfl (Qt.assign rfl) ?_
        refine LW.q rfl (Qt.assign rfl) ?_
        refine LW.done ?_
        refine T.seq ?_
        refine T.seq ?_
        refine T.region ?_
        refine LW.q rfl (Qt.move rfl) ?_
        refine LW.q rfl (Qt.neq rfl rfl) ?_
        refine LW.done ?_
        first | refine T.condT rfl ?_ | refine T.condPT rfl (by omega) ?_ | refine T.condBT rfl (by omega) ?_
        refine T.seq ?_
        refine T.region ?_
        refine LW.q rfl (Qt.move rfl) ?_
        refine LW.q rfl (Qt.len (e := 59) (sz := 2) (by kernel_rfl) rfl) ?_
        refine LW.q rfl (Qt.eql rfl rfl) ?_
        refine LW.q rfl (Qt.assign rfl) ?_
        refine LW.done ?_
        refine T.ret ?_
        exact ⟨.inl rfl, _, _, res [_] rfl ⟨rvT rfl, trivial⟩, ⟨rfl, rfl⟩, Sub.any⟩
end Go.Proofs.YtjjhbpjbngdlnaaDoor
