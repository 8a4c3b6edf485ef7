/- The statement WalPlays: its functions records and same; Open over a closed log. Conditions: sizes. -/
import Derived.Test.YtjjhbpjbngdlnaaDoorRlD
set_option linter.unusedSimpArgs false
set_option linter.unusedVariables false
namespace Go.Proofs.YtjjhbpjbngdlnaaDoor
open Go.RowKit

theorem drec_at {R : List (Nat × List UInt8)} {i : Nat} {x : Nat × List UInt8} (h : R[i]? = some x) : (R.flatMap drecC)[0 + i * 2]? = some (.int .i64 x.1) ∧ (R.flatMap drecC)[0 + i * 2 + 1]? = some (strW x.2) := by
  induction R generalizing i with
  | nil => simp at h
  | cons y R ih =>
    cases i with
    | zero => simp at h; subst h; simp [List.flatMap_cons]
    | succ i =>
      have := ih (i := i) (by simpa using h)
      rw [List.flatMap_cons, show 0 + (i + 1) * 2 = (0 + i * 2) + 2 by omega]
      simpa [drecC] using this

set_option maxRecDepth 100000 in
theorem Rl.records_nil (B : Base) : Fn Tryd.prog B 30 #[.slice none 0 0, .slice none 0 0] [] (fun v l => v = .bool true ∧ l = []) := by
  refine Fn.enter2 42 Tryd.func30 rfl rfl (Nat.le_of_ble_eq_true rfl) (fun F => ?_)
  try simp only [List.cons_append, List.nil_append]
  refine T.seq ?_
  refine T.region ?_
  refine LW.q rfl (Qt.assign rfl) ?_
  refine LW.done ?_
  refine T.seq ?_
  refine T.seq ?_
  refine T.region ?_
  refine LW.q rfl (Qt.move rfl) ?_
  refine LW.q rfl (Qt.len (e := 59) (sz := 2) (by kernel_rfl) rfl) ?_
  refine LW.q rfl (Qt.move rfl) ?_
  refine LW.q rfl (Qt.len (e := 123) (sz := 2) (by kernel_rfl) rfl) ?_
  refine LW.q rfl (Qt.neq rfl rfl) ?_
  refine LW.done ?_
  first | refine T.condF rfl ?_ | refine T.condPF rfl (by omega) ?_ | refine T.condBF rfl (by omega) ?_
  refine T.skip ?_
  refine T.seq ?_
  refine T.seq ?_
  refine T.region ?_
  refine LW.q rfl (Qt.move rfl) ?_
  refine LW.q rfl (Qt.len (e := 59) (sz := 2) (by kernel_rfl) rfl) ?_
  refine LW.q rfl (Qt.move rfl) ?_
  refine LW.done ?_
  refine T.block ?_
  refine T.loop (fun mz fz lz => ∃ (f0 : Fr) (i : Nat), (i ≤ 0) ∧ mz = 0 - i ∧ fz = (upd (upd f0 12 (.int .i64 0)) 13 (.int .i64 i)) ∧ lz = F) ?_ ?_
  · refine ⟨_, _, ⟨_, 0, Nat.le_refl _, rfl, (updS rfl (updS rfl rfl)), rfl⟩, Sub.any⟩
  · skip
    rintro mz fz lz ⟨f0, i, hi, hmz, rfl, rfl⟩
    subst mz
    try simp only [List.cons_append, List.nil_append]
    refine T.seq ?_
    refine T.region ?_
    refine LW.q rfl (Qt.lss rfl rfl) ?_
    refine LW.done ?_
    refine T.seq ?_
    first | refine T.condF rfl ?_ | refine T.condPF rfl (by omega) ?_ | refine T.condBF rfl (by omega) ?_
    refine T.exit ?_
    refine T.seq ?_
    refine T.region ?_
    refine LW.q rfl (Qt.assign rfl) ?_
    refine LW.done ?_
    refine T.ret ?_
    exact ⟨.inl rfl, _, _, res [_] rfl ⟨rvT rfl, trivial⟩, ⟨rfl, rfl⟩, Sub.any⟩
set_option maxHeartbeats 1000000 in
set_option maxRecDepth 100000 in
theorem Rl.records (B : Base) (R : List WRec) (R' : List (Nat × List UInt8)) (q q2 : Option Addr) (c c2 n : Nat) (hn : R.length = n) (hn2 : n < 2 ^ 40) (h : R.map (fun x : WRec => (x.mark, x.r.b)) = R') :
    Fn Tryd.prog B 30 #[.slice q n c, .slice q2 n c2] [wrecR q n c R, recsA (R.map WRec.r), drecR q2 n c2 R'] (fun v l => v = .bool true ∧ l = []) := by
  refine Fn.enter2 42 Tryd.func30 rfl rfl (Nat.le_of_ble_eq_true rfl) (fun F => ?_)
  try simp only [List.cons_append, List.nil_append]
  refine T.own (fun w ho => ?_)
  have hq : 0 < n → ∃ g, q = some ⟨g, 0, none⟩ := (ho.slice_at (p := q) (m := n) (c := c)).2.1
  have hq2 : 0 < n → ∃ g, q2 = some ⟨g, 0, none⟩ := (ho.slice_at (p := q2) (m := n) (c := c2)).2.1
  have hro : RecOk (R.map WRec.r) := ho.tl.recOk
  clear ho
  refine T.seq ?_
  refine T.region ?_
  refine LW.q rfl (Qt.assign rfl) ?_
  refine LW.done ?_
  refine T.seq ?_
  refine T.seq ?_
  refine T.region ?_
  refine LW.q rfl (Qt.move rfl) ?_
  refine LW.q rfl (Qt.len (e := 59) (sz := 2) (by kernel_rfl) rfl) ?_
  refine LW.q rfl (Qt.move rfl) ?_
  refine LW.q rfl (Qt.len (e := 123) (sz := 2) (by kernel_rfl) rfl) ?_
  refine LW.q rfl (Qt.neq rfl rfl) ?_
  refine LW.done ?_
  first | refine T.condF rfl ?_ | refine T.condPF rfl (by omega) ?_ | refine T.condBF rfl (by omega) ?_
  refine T.skip ?_
  refine T.seq ?_
  refine T.seq ?_
  refine T.region ?_
  refine LW.q rfl (Qt.move rfl) ?_
  refine LW.q rfl (Qt.len (e := 59) (sz := 2) (by kernel_rfl) rfl) ?_
  refine LW.q rfl (Qt.move rfl) ?_
  refine LW.done ?_
  refine T.block ?_
  refine T.loop (fun mz fz lz => ∃ (f0 : Fr) (i : Nat), (i ≤ n) ∧ mz = n - i ∧ fz = (upd (upd (upd (upd f0 0 (.slice q n c)) 1 (.slice q2 n c2)) 12 (.int .i64 n)) 13 (.int .i64 i)) ∧ lz = wrecR q n c R :: recsA (R.map WRec.r) :: drecR q2 n c2 R' :: F) ?_ ?_
  · refine ⟨_, _, ⟨_, 0, Nat.zero_le _, rfl, (updS rfl (updS rfl (updS rfl (updS rfl rfl)))), rfl⟩, Sub.any⟩
  · skip
    rintro mz fz lz ⟨f0, i, hi, hmz, rfl, rfl⟩
    subst mz
    try simp only [List.cons_append, List.nil_append]
    refine T.seq ?_
    refine T.region ?_
    refine LW.q rfl (Qt.lss rfl rfl) ?_
    refine LW.done ?_
    refine T.seq ?_
    refine T.condP rfl (fun hlt => ?_) (fun hlt => ?_)
    · skip
      obtain ⟨g1, rfl⟩ := hq (by omega)
      obtain ⟨g2, rfl⟩ := hq2 (by omega)
      obtain ⟨x, hx⟩ : ∃ x, R[i]? = some x := ⟨_, List.getElem?_eq_getElem (by omega)⟩
      have hx2 : R'[i]? = some (x.mark, x.r.b) := by rw [← h, List.getElem?_map, hx]; rfl
      have rx : RdV B [recsA (R.map WRec.r)] (recV x.r) (bytesV x.r.b) := by have := RdV.rec (B := B) hro (j := i) (by simp; omega); simpa [(List.getElem?_eq_some_iff.1 hx).2] using this
      refine T.skip ?_
      refine T.seq ?_
      refine T.block ?_
      refine T.seq ?_
      refine T.region ?_
      refine LW.q rfl (Qt.move rfl) ?_
      refine LW.q rfl (Qt.assign rfl) ?_
      refine LW.done ?_
      refine T.seq ?_
      refine T.drawAll 25 (by kernel_rfl) (Nat.le_of_ble_eq_true rfl) (by kernel_rfl) ?_
      refine RW.q 0 rfl rfl (by kernel_rfl) (Sub.refl _) (Qt.move rfl) ?_
      refine RW.q 1 rfl rfl (by kernel_rfl) (Sub.refl _) (Qt.move rfl) ?_
      refine RW.q 2 rfl rfl (by kernel_rfl) (Sub.refl _) (Qt.index _ (e := 59) (sz := 2) (by kernel_rfl) rfl rfl rfl (by omega)) ?_
      refine RW.q 3 rfl rfl (by kernel_rfl) (Sub.refl _) (Qt.fieldAddr0 (by kernel_rfl) rfl) ?_
      refine RW.q 4 rfl rfl (by kernel_rfl) (Sub.refl _) (Qt.load (v := .int .i64 x.mark) (by kernel_rfl) rfl (by have := (wrec_at hx).1; simpa using this)) ?_
      refine RW.q 5 rfl rfl (by kernel_rfl) (Sub.refl _) (Qt.move rfl) ?_
      refine RW.q 6 rfl rfl (by kernel_rfl) (Sub.refl _) (Qt.move rfl) ?_
      refine RW.q 7 rfl rfl (by kernel_rfl) (Sub.refl _) (Qt.index _ (e := 123) (sz := 2) (by kernel_rfl) rfl rfl rfl (by omega)) ?_
      refine RW.q 8 rfl rfl (by kernel_rfl) (Sub.refl _) (Qt.fieldAddr0 (by kernel_rfl) rfl) ?_
      refine RW.q 9 rfl rfl (by kernel_rfl) (Sub.refl _) (Qt.load (v := .int .i64 x.mark) (by kernel_rfl) rfl (by have := (drec_at hx2).1; simpa using this)) ?_
      refine RW.q 10 rfl rfl (by kernel_rfl) (Sub.refl _) (Qt.neq rfl rfl) ?_
      refine RW.q 11 rfl rfl (by kernel_rfl) (Sub.refl _) (Qt.move rfl) ?_
      first | refine RW.gF (t := 27) rfl rfl ?_ | refine RW.gF (t := 27) rfl (decide_eq_false (by omega)) ?_ | refine RW.gF (t := 27) rfl (by omega) ?_
      refine RW.q 12 rfl rfl (by kernel_rfl) (Sub.refl _) (Qt.move rfl) ?_
      refine RW.q 13 rfl rfl (by kernel_rfl) (Sub.refl _) (Qt.move rfl) ?_
      refine RW.q 14 rfl rfl (by kernel_rfl) (Sub.refl _) (Qt.index _ (e := 59) (sz := 2) (by kernel_rfl) rfl rfl rfl (by omega)) ?_
      refine RW.q 15 rfl rfl (by kernel_rfl) (Sub.refl _) (Qt.fieldAddr (off := 1) (by kernel_rfl) rfl) ?_
      refine RW.q 16 rfl rfl (by kernel_rfl) (Sub.refl _) (Qt.load (v := .slice x.r.p x.r.b.length x.r.c) (by kernel_rfl) rfl (by have := (wrec_at hx).2; simpa [recV] using this)) ?_
      refine RW.q 17 rfl rfl (by kernel_rfl) (Sub.refl _) (Qt.str x.r.b (by kernel_rfl) (by kernel_rfl) rfl (fun w ho => rx.reads w (ho.map Sub.any))) ?_
      refine RW.q 18 rfl rfl (by kernel_rfl) (Sub.refl _) (Qt.move rfl) ?_
      refine RW.q 19 rfl rfl (by kernel_rfl) (Sub.refl _) (Qt.move rfl) ?_
      refine RW.q 20 rfl rfl (by kernel_rfl) (Sub.refl _) (Qt.index _ (e := 123) (sz := 2) (by kernel_rfl) rfl rfl rfl (by omega)) ?_
      refine RW.q 21 rfl rfl (by kernel_rfl) (Sub.refl _) (Qt.fieldAddr (off := 1) (by kernel_rfl) rfl) ?_
      refine RW.q 22 rfl rfl (by kernel_rfl) (Sub.refl _) (Qt.load (v := strW x.r.b) (by kernel_rfl) rfl (by have := (drec_at hx2).2; simpa using this)) ?_
      refine RW.q 23 rfl rfl (by kernel_rfl) (Sub.refl _) (Qt.neqS rfl rfl) ?_
      refine RW.q 24 rfl rfl (by kernel_rfl) (Sub.refl _) (Qt.pick rfl rfl) ?_
      refine RW.done (by rfl) ?_
      simp only [List.drop_succ_cons, List.drop_zero, List.drop_nil]
      refine LW.done ?_
      first | refine T.condF rfl ?_ | refine T.condPF rfl ((by simp)) ?_ | refine T.condBF rfl ((by simp)) ?_
      refine T.skip ?_
      refine T.region ?_
      refine LW.q rfl (Qt.add rfl rfl (wr64 (by omega) (by omega))) ?_
      refine LW.q rfl (Qt.move rfl) ?_
      refine LW.done ?_
      refine ⟨_, ?_, _, ⟨_, i + 1, by omega, rfl, (updS rfl (updS rfl (updS rfl (updS rfl rfl)))), rfl⟩, Sub.any⟩
      first | omega | (simp; omega)
    · skip
      refine T.exit ?_
      refine T.seq ?_
      refine T.region ?_
      refine LW.q rfl (Qt.assign rfl) ?_
      refine LW.done ?_
      refine T.ret ?_
      exact ⟨.inl rfl, _, _, res [_] rfl ⟨rvT rfl, trivial⟩, ⟨rfl, rfl⟩, Sub.any⟩

set_option maxHeartbeats 1000000 in
set_option maxRecDepth 100000 in
theorem Rl.same (B : Base) (b : Nat) (D : DD) (p q : Option Addr) (a c N m : Nat) (hN : D.secs.length = N) (hm : D.pend.length = m) (hD : D.Ok) (hp : m < 2 ^ 32) :
    Fn Tryd.prog B 42 #[.pointer (some ⟨b, 0, none⟩), .agg #[.slice p N a, .slice q m c]] [dskA b D, rS (.slice p N a) N D.secs, rW (.slice q m c) m D.pend] (fun v l => v = .bool true ∧ l = [dskA b D, rS (.slice p N a) N D.secs, rW (.slice q m c) m D.pend]) := by
  have hmax : N ≤ 4096 := by rw [← hN]; exact hD.max
  refine Fn.enter2 43 Tryd.func42 rfl rfl (Nat.le_of_ble_eq_true rfl) (fun F => ?_)
  try simp only [List.cons_append, List.nil_append]
  refine T.seq ?_
  refine T.region ?_
  refine LW.e rfl (Ef.box [_, _] rfl rfl ?_)
  intro g3
  refine LW.q rfl (Qt.assign rfl) ?_
  refine LW.done ?_
  refine T.seq ?_
  refine T.seq ?_
  refine T.region ?_
  refine LW.q rfl (Qt.fieldAddr0 (by kernel_rfl) rfl) ?_
  first | refine LW.q rfl (Qt.load (by kernel_rfl) rfl rfl) ?_ | refine LW.q rfl (Qt.load (by kernel_rfl) rfl (map_at _ _ _ (by omega))) ?_ | refine LW.q rfl (Qt.load (by kernel_rfl) rfl (flat_cell0 _ _ _ (by intros; rfl) _ (by omega) (by rfl))) ?_ | refine LW.q rfl (Qt.load (by kernel_rfl) rfl (flat_cell _ _ _ (by intros; rfl) _ _ (by omega) (by rfl))) ?_ | refine LW.q rfl (Qt.load (by kernel_rfl) rfl (bytes_at _ _ (by omega))) ?_
  refine LW.q rfl (Qt.len (e := 9) (sz := 1) (by kernel_rfl) rfl) ?_
  refine LW.q rfl (Qt.move rfl) ?_
  refine LW.done ?_
  refine T.block ?_
  refine T.loop (fun mz fz lz => ∃ (f0 : Fr) (k : Nat), (k ≤ N) ∧ mz = N - k ∧ fz = (upd (upd (upd (upd f0 0 (.pointer (some ⟨b, 0, none⟩))) 3 (.pointer (some ⟨g3, 0, none⟩))) 12 (.int .i64 N)) 13 (.int .i64 k)) ∧ lz = [dskA b D, blk g3 [.slice p N a, .slice q m c] 63, rS (.slice p N a) N D.secs, rW (.slice q m c) m D.pend] ++ F) ?_ ?_
  · refine ⟨_, _, ⟨_, 0, Nat.zero_le _, rfl, (updS rfl (updS rfl (updS rfl (updS rfl rfl)))), rfl⟩, Sub.any⟩
  · skip
    rintro mz fz lz ⟨f0, k, hk, hmz, rfl, rfl⟩
    subst mz
    try simp only [List.cons_append, List.nil_append]
    refine T.seq ?_
    refine T.region ?_
    refine LW.q rfl (Qt.lss rfl rfl) ?_
    refine LW.done ?_
    refine T.seq ?_
    refine T.condP rfl (fun hlt => ?_) (fun hlt => ?_)
    · skip
      have hrl : (D.read k).length = 256 := hD.rd k (by omega)
      refine T.skip ?_
      refine T.seq ?_
      refine T.block ?_
      refine T.seq ?_
      refine T.region ?_
      refine LW.q rfl (Qt.move rfl) ?_
      refine LW.q rfl (Qt.assign rfl) ?_
      refine LW.done ?_
      refine T.seq ?_
      refine T.region ?_
      refine LW.q rfl (Qt.move rfl) ?_
      refine LW.q rfl (Qt.move rfl) ?_
      refine LW.e rfl (Ef.call (Dk.readF B b D k _ rfl (by omega) (by omega)) Tryd.func43 rfl rfl rfl ?_)
      rintro _ _ ⟨g, cap, rfl, rfl⟩
      try simp only [List.cons_append, List.nil_append]
      refine LW.q rfl (Qt.move rfl) ?_
      refine LW.q rfl (Qt.extract rfl rfl) ?_
      refine LW.q rfl (Qt.extract rfl rfl) ?_
      refine LW.q rfl (Qt.assign rfl) ?_
      refine LW.q rfl (Qt.assign rfl) ?_
      refine LW.done ?_
      refine T.seq ?_
      refine T.region ?_
      first | refine LW.q rfl (Qt.loadAgg [_, _] (by kernel_rfl) rfl ⟨rfl, rfl, trivial⟩) ?_ | refine LW.q rfl (Qt.loadAgg [_, _] (by kernel_rfl) rfl (by exact rdl_flat _ _ _ (by intros; rfl) _ (by omega))) ?_
      refine LW.q rfl (Qt.move rfl) ?_
      refine LW.e rfl (Ef.call (Rf.read B p q a c N m _ k rfl D.secs D.pend (by omega) hmax hp) Tryd.func65 rfl rfl rfl ?_)
      rintro _ _ ⟨rfl, rfl⟩
      try simp only [List.cons_append, List.nil_append]
      refine LW.q rfl (Qt.move rfl) ?_
      refine LW.q rfl (Qt.extract rfl rfl) ?_
      refine LW.q rfl (Qt.extract rfl rfl) ?_
      refine LW.q rfl (Qt.assign rfl) ?_
      refine LW.q rfl (Qt.assign rfl) ?_
      refine LW.done ?_
      refine T.seq ?_
      refine T.region ?_
      refine LW.q rfl (Qt.move rfl) ?_
      refine LW.q rfl (Qt.neq rfl rfl) ?_
      refine LW.q rfl (Qt.move rfl) ?_
      first | refine LW.gF (t := 30) rfl rfl ?_ | refine LW.gF (t := 30) rfl (decide_eq_false (by omega)) ?_ | refine LW.gF (t := 30) rfl (by omega) ?_
      refine LW.q rfl (Qt.move rfl) ?_
      refine LW.q rfl (Qt.str (D.read k) (by kernel_rfl) (by kernel_rfl) rfl (fun _ ho => ho.reads_row hrl)) ?_
      refine LW.q rfl (Qt.move rfl) ?_
      refine LW.q rfl (Qt.neqS rfl rfl) ?_
      refine LW.q rfl (Qt.pick rfl rfl) ?_
      refine LW.done ?_
      first | refine T.condF rfl ?_ | refine T.condPF rfl ((by simp)) ?_ | refine T.condBF rfl ((by simp)) ?_
      refine T.skip ?_
      refine T.region ?_
      refine LW.q rfl (Qt.add rfl rfl (wr64 (by omega) (by omega))) ?_
      refine LW.q rfl (Qt.move rfl) ?_
      refine LW.done ?_
      refine ⟨_, ?_, _, ⟨_, k + 1, by omega, rfl, (updS rfl (updS rfl (updS rfl (updS rfl rfl)))), rfl⟩, Sub.any⟩
      first | omega | (simp; omega)
    · skip
      refine T.exit ?_
      refine T.seq ?_
      refine T.drawBl 6 none (by kernel_rfl) (Nat.le_of_ble_eq_true rfl) (by kernel_rfl) ?_
      refine RW.q 0 rfl rfl (by kernel_rfl) Sub.any (Qt.move rfl) ?_
      refine RW.q 2 rfl rfl (by kernel_rfl) Sub.any (Qt.fieldAddr (off := 1) (by kernel_rfl) rfl) ?_
      first | refine RW.q 3 rfl rfl (by kernel_rfl) Sub.any (Qt.load (by kernel_rfl) rfl rfl) ?_ | refine RW.q 3 rfl rfl (by kernel_rfl) Sub.any (Qt.load (by kernel_rfl) rfl (map_at _ _ _ (by omega))) ?_ | refine RW.q 3 rfl rfl (by kernel_rfl) Sub.any (Qt.load (by kernel_rfl) rfl (flat_cell0 _ _ _ (by intros; rfl) _ (by omega) (by rfl))) ?_ | refine RW.q 3 rfl rfl (by kernel_rfl) Sub.any (Qt.load (by kernel_rfl) rfl (flat_cell _ _ _ (by intros; rfl) _ _ (by omega) (by rfl))) ?_ | refine RW.q 3 rfl rfl (by kernel_rfl) Sub.any (Qt.load (by kernel_rfl) rfl (bytes_at _ _ (by omega))) ?_
      refine RW.q 4 rfl rfl (by kernel_rfl) Sub.any (Qt.len (e := 133) (sz := 2) (by kernel_rfl) rfl) ?_
      refine RW.one 1 (by kernel_rfl) ?_
      refine RO.eS rfl rfl (Ef.call (Dk.pendingF B b D) Tryd.func44 rfl rfl rfl ?_)
      rintro _ _ ⟨rfl, rfl⟩
      try simp only [List.cons_append, List.nil_append]
      rw [hm]
      refine ⟨Sub.any, ?_⟩
      refine RW.q 5 rfl rfl (by kernel_rfl) Sub.any (Qt.eql rfl rfl) ?_
      refine RW.done (by rfl) ?_
      simp only [List.drop_succ_cons, List.drop_zero, List.drop_nil]
      refine LW.q rfl (Qt.assign rfl) ?_
      refine LW.done ?_
      refine T.ret ?_
      exact ⟨.inl rfl, _, _, res [_] rfl ⟨rvT rfl, trivial⟩, ⟨by simp; rfl, rfl⟩, Sub.any⟩

/-- What Open leaves, told exactly. -/
def OpenE (b first count : Nat) (D : DD) (u : Value) (l : List Assn) : Prop := ∃ g q cq R k s, scanW (allD D first count) (count * 256 + 1) 0 0 = (k, s, R.map fun x => (x.mark, x.r.b)) ∧ k ≤ count * 256 ∧ ((allD D first count).take k).length = k ∧
  u = .tuple #[.pointer (some ⟨g, 0, none⟩), .slice q R.length cq, .int .i64 0] ∧ l = [wrecR q R.length cq R, recsA (R.map WRec.r), wlA g b ⟨first, count, (allD D first count).take k, s, k⟩, dskA b (wipeD ⟨first, count, (allD D first count).take k, s, k⟩ (allD D first count) D (k / 256) (count - k / 256)).sync]
theorem Wl.openE (B : Base) (b : Nat) (D : DD) (first count : Nat) (h1 : 1 ≤ count) (hD : first + count ≤ D.secs.length) (hroom : D.pend.length + 4096 < 2 ^ 32) (ho : D.Ok) :
    Fn Tryd.prog B 25 #[.pointer (some ⟨b, 0, none⟩), .int .i64 first, .int .i64 count] [dskA b D] (OpenE b first count D) := by
  refine (Wl.open B b D first count h1 hD ho.max hroom (fun n hn => ho.rd n hn)).sub fun u l h => ?_
  obtain ⟨g, p, c, q, cq, R, k, s, e1, e2, e3, e4, e5, e6, e7⟩ := h
  refine ⟨_, ?_, g, q, cq, R, k, s, e1, e2, e5, e6, rfl⟩
  rw [e7]
  intro h H
  refine Has.cons_imp (fun _ H => Has.cons_imp (fun _ H => ?_) H) H
  obtain ⟨h1, h2, d, a1, a2, k1, k2⟩ := Has.split (l := [_, _]) H
  have k1 := Has.swap k1
  refine ⟨h1, h2, d, a1, a2, ⟨p, c, ?_⟩, k2⟩
  show Has [wlB g b ⟨first, count, (allD D first count).take k, s, k⟩ p c, rB (.slice p ((allD D first count).take k).length c) ((allD D first count).take k).length ((allD D first count).take k)] h1
  rw [e5]
  exact k1
end Go.Proofs.YtjjhbpjbngdlnaaDoor
