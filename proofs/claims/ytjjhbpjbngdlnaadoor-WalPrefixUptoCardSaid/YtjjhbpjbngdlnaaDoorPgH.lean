/- The statement PageRoom. Conditions: that the script can be read; sizes. -/
import Derived.Test.YtjjhbpjbngdlnaaDoorPgG
set_option linter.unusedSimpArgs false
set_option linter.unusedVariables false
namespace Go.Proofs.YtjjhbpjbngdlnaaDoor
open Go.RowKit

abbrev strV (b : List UInt8) : Value := .string (strOf b)
abbrev strR (q : Option Addr) (n c : Nat) (l : List (List UInt8)) : Assn := row (.slice q n c) 9 1 n (l.map strV)
theorem elemStr : ElemOk Tryd.prog 36 9 1 16 := .mk' (.string ⟨#[]⟩) Tryd.underlying36 (by kernel_rfl) rfl (by omega)
theorem len_used (l : List (List UInt8)) : l.length ≤ usedR l := by
  induction l with
  | nil => simp [usedR]
  | cons a l ih => simp [usedR] at ih ⊢; omega
theorem addR_ok {recs : List (List UInt8)} {b : List UInt8} (h : b.length ≤ 200 ∧ usedR recs + b.length + 1 ≤ 243) : addR recs b = (recs ++ [b], (recs.length : Int), 0) := by
  unfold addR; rw [if_neg (by omega), if_neg (by omega)]
theorem addR_full {recs : List (List UInt8)} {b : List UInt8} (h1 : b.length ≤ 200) (h2 : 243 < usedR recs + b.length + 1) : addR recs b = (recs, 0, 3) := by
  unfold addR; rw [if_neg (by omega), if_pos (by omega)]
theorem addR_no {recs : List (List UInt8)} {b : List UInt8} (h : ¬ (b.length ≤ 200 ∧ usedR recs + b.length + 1 ≤ 243)) : ∃ e : Int, addR recs b = (recs, 0, e) ∧ 2 ≤ e := by
  unfold addR
  by_cases h1 : 200 < b.length
  · exact ⟨2, by rw [if_pos h1], by omega⟩
  · exact ⟨3, by rw [if_neg h1, if_pos (by omega)], by omega⟩

theorem roomy_second {recs : List (List UInt8)} {r : Nat} (hus : usedR recs ≤ 243) (hr : r = min (242 - usedR recs) 200) : ∃ recs2 e2 n2, addR recs (List.replicate r 0) = (recs2, n2, e2) ∧ recs <+: recs2 ∧ (e2 = 0 ∨ (e2 = 3 ∧ r = 0)) := by
  by_cases h : usedR recs ≤ 242
  · exact ⟨_, _, _, addR_ok (by simp; omega), List.prefix_append _ _, .inl rfl⟩
  · exact ⟨_, _, _, addR_full (by simp; omega) (by simp; omega), List.prefix_refl _, .inr ⟨rfl, by omega⟩⟩

set_option maxHeartbeats 4000000 in
set_option maxRecDepth 100000 in
theorem Pg.roomy (B : Base) (va : Value) (la : List OpP) (ha : RoLP B va la) (hla : la.length ≤ 1048576) : Fn Tryd.prog B 6 #[va] [] (fun v l => v = .bool true ∧ l = []) := by
  obtain ⟨aa, ac, rfl, hac⟩ := ha
  refine Fn.enter1 106 Tryd.func6 rfl rfl (Nat.le_of_ble_eq_true rfl) (fun F => ?_)
  try simp only [List.cons_append, List.nil_append]
  refine T.seq ?_
  refine T.region ?_
  refine LW.q rfl (Qt.assign rfl) ?_
  refine LW.done ?_
  refine T.seq ?_
  refine T.seq ?_
  refine T.region ?_
  refine LW.e rfl (Ef.call (Pg.awake B) Tryd.func12 rfl rfl rfl ?_)
  rintro _ _ ⟨rfl, rfl⟩
  try simp only [List.cons_append, List.nil_append]
  first | refine LW.q rfl (Qt.notP rfl) ?_ | refine LW.q rfl (Qt.notB rfl) ?_
  refine LW.done ?_
  first | refine T.condF rfl ?_ | refine T.condPF rfl (by omega) ?_ | refine T.condBF rfl (by omega) ?_
  refine T.skip ?_
  refine T.seq ?_
  refine T.region ?_
  refine LW.e rfl (Ef.call (Pg.new B) Tryd.func13 rfl rfl rfl ?_)
  rintro _ _ ⟨gp, rfl, rfl⟩
  try simp only [List.cons_append, List.nil_append]
  refine LW.q rfl (Qt.assign rfl) ?_
  refine LW.done ?_
  refine T.seq ?_
  refine T.region ?_
  refine LW.q rfl (Qt.assign rfl) ?_
  refine LW.done ?_
  refine T.seq ?_
  refine T.seq ?_
  refine T.region ?_
  refine LW.q rfl (Qt.move rfl) ?_
  refine LW.q rfl (Qt.len (e := 45) (sz := 5) (by kernel_rfl) rfl) ?_
  refine LW.q rfl (Qt.move rfl) ?_
  refine LW.done ?_
  refine T.block ?_
  first | refine T.conv (l' := strR none 0 0 [] :: pgA gp [] 0 :: F) (fun w ho => ho.row_nil _ _) ?_ | refine LW.conv (l' := strR none 0 0 [] :: pgA gp [] 0 :: F) (fun w ho => ho.row_nil _ _) ?_
  refine T.loop (fun mz fz lz => ∃ (f0 : Fr) (k n : Nat) (recs : List (List UInt8)) (q : Option Addr) (c : Nat), (k ≤ la.length ∧ usedR recs ≤ 243 ∧ n = recs.length) ∧ mz = la.length - k ∧ fz = (upd (upd (upd (upd (upd f0 3 (.pointer (some ⟨gp, 0, none⟩))) 4 (.slice q n c)) 21 (.slice aa la.length ac)) 22 (.int .i64 la.length)) 23 (.int .i64 k)) ∧ lz = pgA gp recs 0 :: strR q n c recs :: F) ?_ ?_
  · refine ⟨_, _, ⟨_, 0, 0, [], none, 0, ⟨Nat.zero_le _, by simp [usedR], rfl⟩, rfl, (updS rfl (updS rfl (updS rfl (updS rfl (updS rfl rfl))))), rfl⟩, Sub.any⟩
  · skip
    rintro mz fz lz ⟨f0, k, n, recs, q, c, ⟨hk, hus, hn⟩, hmz, rfl, rfl⟩
    subst mz
    try simp only [List.cons_append, List.nil_append]
    have hlu := len_used recs
    refine T.seq ?_
    refine T.region ?_
    refine LW.q rfl (Qt.lss rfl rfl) ?_
    refine LW.done ?_
    refine T.seq ?_
    refine T.condP rfl (fun hlt => ?_) (fun hlt => ?_)
    · skip
      obtain ⟨kb, ko, C, rfl, hro, hC⟩ := hac.resolve_left (by intro e; rw [e] at hlt; simp at hlt; omega)
      obtain ⟨da, dc, hrd, hdv⟩ := hC k (by omega)
      obtain ⟨b, hb⟩ : ∃ b, la[k].data = b := ⟨_, rfl⟩
      rw [hb] at hrd hdv
      by_cases hok : b.length ≤ 200 ∧ usedR recs + b.length + 1 ≤ 243
      · skip
        refine T.skip ?_
        refine T.seq ?_
        refine T.block ?_
        refine T.seq ?_
        refine T.region ?_
        refine LW.q rfl (Qt.index _ (e := 45) (sz := 5) (by kernel_rfl) rfl rfl rfl (by omega)) ?_
        refine LW.q rfl (Qt.loadAgg [_, _, _, _, _] (by kernel_rfl) rfl hrd) ?_
        refine LW.e rfl (Ef.alloc [.int .i64 0, .int .i64 0, .int .i64 0, .slice none 0 0, .int .i64 0] (by unfold zeroB; kernel_rfl) ?_)
        intro g6
        refine LW.e0 rfl (Ef.store [_, _, _, _, _] (by kernel_rfl) rfl rfl rfl rfl (by simp) ?_)
        try simp only [splice, List.length_cons, List.length_nil, List.drop_succ_cons, List.cons_append, List.take_succ_cons, List.take_zero, List.drop_zero, List.nil_append, List.append_nil]
        refine LW.done ?_
        refine T.seq ?_
        refine T.region ?_
        refine LW.q rfl (Qt.move rfl) ?_
        refine LW.q rfl (Qt.fieldAddr (off := 3) (by kernel_rfl) rfl) ?_
        first | refine LW.q rfl (Qt.load (by kernel_rfl) rfl rfl) ?_ | refine LW.q rfl (Qt.load (by kernel_rfl) rfl (map_at _ _ _ (by omega))) ?_ | refine LW.q rfl (Qt.load (by kernel_rfl) rfl (flat_cell0 _ _ _ (by intros; rfl) _ (by omega) (by rfl))) ?_ | refine LW.q rfl (Qt.load (by kernel_rfl) rfl (flat_cell _ _ _ (by intros; rfl) _ _ (by omega) (by rfl))) ?_ | refine LW.q rfl (Qt.load (by kernel_rfl) rfl (bytes_at _ _ (by omega))) ?_
        refine LW.e rfl (Ef.call (Pg.addAny B [] gp recs 0 da b.length dc b (hdv.rd []) rfl hus) Tryd.func14 rfl rfl rfl ?_)
        rintro _ _ ⟨rfl, rfl⟩
        try simp only [List.cons_append, List.nil_append]
        simp only [addR_ok hok]
        refine LW.q rfl (Qt.move rfl) ?_
        refine LW.q rfl (Qt.extract rfl rfl) ?_
        refine LW.q rfl (Qt.extract rfl rfl) ?_
        refine LW.q rfl (Qt.assign rfl) ?_
        refine LW.q rfl (Qt.assign rfl) ?_
        refine LW.done ?_
        refine T.seq ?_
        refine T.region ?_
        refine LW.q rfl (Qt.move rfl) ?_
        refine LW.q rfl (Qt.eql rfl rfl) ?_
        refine LW.done ?_
        first | refine T.condT rfl ?_ | refine T.condPT rfl (by omega) ?_ | refine T.condBT rfl (by omega) ?_
        refine T.seq ?_
        refine T.seq ?_
        refine T.region ?_
        refine LW.q rfl (Qt.move rfl) ?_
        refine LW.q rfl (Qt.move rfl) ?_
        refine LW.q rfl (Qt.len (e := 9) (sz := 1) (by kernel_rfl) rfl) ?_
        refine LW.q rfl (Qt.neq rfl rfl) ?_
        refine LW.done ?_
        first | refine T.condF rfl ?_ | refine T.condPF rfl (by omega) ?_ | refine T.condBF rfl (by omega) ?_
        refine T.skip ?_
        refine T.region ?_
        refine LW.q rfl (Qt.move rfl) ?_
        refine LW.q rfl (Qt.fieldAddr (off := 3) (by kernel_rfl) rfl) ?_
        first | refine LW.q rfl (Qt.load (by kernel_rfl) rfl rfl) ?_ | refine LW.q rfl (Qt.load (by kernel_rfl) rfl (map_at _ _ _ (by omega))) ?_ | refine LW.q rfl (Qt.load (by kernel_rfl) rfl (flat_cell0 _ _ _ (by intros; rfl) _ (by omega) (by rfl))) ?_ | refine LW.q rfl (Qt.load (by kernel_rfl) rfl (flat_cell _ _ _ (by intros; rfl) _ _ (by omega) (by rfl))) ?_ | refine LW.q rfl (Qt.load (by kernel_rfl) rfl (bytes_at _ _ (by omega))) ?_
        refine LW.q rfl (Qt.str b (by kernel_rfl) (by kernel_rfl) rfl (hdv.rd _).str) ?_
        refine LW.e rfl (Ef.one [_] (e := 9) (sz := 1) (by kernel_rfl) ⟨.string .empty, by kernel_rfl, rfl⟩ rfl rfl rfl (by omega) (by omega) ?_)
        intro g44
        refine LW.e rfl (Ef.append elemStr rfl rfl (SrcOf.blk (by kernel_rfl) rfl (by simp [Value.oneCell'])) (by unfold maxLen; omega) (by omega) ?_)
        rintro q2 c2 hq2
        try simp only [List.cons_append, List.nil_append]
        rw [show [Value.string (strOf b)] = [strV b] from rfl, map_snoc strV]
        refine LW.q rfl (Qt.assign rfl) ?_
        refine LW.done ?_
        refine T.region ?_
        refine LW.q rfl (Qt.add rfl rfl (wr64 (by omega) (by omega))) ?_
        refine LW.q rfl (Qt.move rfl) ?_
        refine LW.done ?_
        refine ⟨_, ?_, _, ⟨_, k + 1, n + 1, recs ++ [b], q2, c2, ⟨by omega, by rw [usedR_append]; have : usedR [b] = b.length + 1 := (by simp [usedR]); omega, by simp [hn]⟩, rfl, (updS rfl (updS rfl (updS rfl (updS rfl (updS rfl rfl))))), rfl⟩, Sub.any⟩
        first | omega | (simp; omega)
      · skip
        obtain ⟨e, he, he2⟩ := addR_no hok
        refine T.skip ?_
        refine T.seq ?_
        refine T.block ?_
        refine T.seq ?_
        refine T.region ?_
        refine LW.q rfl (Qt.index _ (e := 45) (sz := 5) (by kernel_rfl) rfl rfl rfl (by omega)) ?_
        refine LW.q rfl (Qt.loadAgg [_, _, _, _, _] (by kernel_rfl) rfl hrd) ?_
        refine LW.e rfl (Ef.alloc [.int .i64 0, .int .i64 0, .int .i64 0, .slice none 0 0, .int .i64 0] (by unfold zeroB; kernel_rfl) ?_)
        intro g6
        refine LW.e0 rfl (Ef.store [_, _, _, _, _] (by kernel_rfl) rfl rfl rfl rfl (by simp) ?_)
        try simp only [splice, List.length_cons, List.length_nil, List.drop_succ_cons, List.cons_append, List.take_succ_cons, List.take_zero, List.drop_zero, List.nil_append, List.append_nil]
        refine LW.done ?_
        refine T.seq ?_
        refine T.region ?_
        refine LW.q rfl (Qt.move rfl) ?_
        refine LW.q rfl (Qt.fieldAddr (off := 3) (by kernel_rfl) rfl) ?_
        first | refine LW.q rfl (Qt.load (by kernel_rfl) rfl rfl) ?_ | refine LW.q rfl (Qt.load (by kernel_rfl) rfl (map_at _ _ _ (by omega))) ?_ | refine LW.q rfl (Qt.load (by kernel_rfl) rfl (flat_cell0 _ _ _ (by intros; rfl) _ (by omega) (by rfl))) ?_ | refine LW.q rfl (Qt.load (by kernel_rfl) rfl (flat_cell _ _ _ (by intros; rfl) _ _ (by omega) (by rfl))) ?_ | refine LW.q rfl (Qt.load (by kernel_rfl) rfl (bytes_at _ _ (by omega))) ?_
        refine LW.e rfl (Ef.call (Pg.addAny B [] gp recs 0 da b.length dc b (hdv.rd []) rfl hus) Tryd.func14 rfl rfl rfl ?_)
        rintro _ _ ⟨rfl, rfl⟩
        try simp only [List.cons_append, List.nil_append]
        simp only [he]
        refine LW.q rfl (Qt.move rfl) ?_
        refine LW.q rfl (Qt.extract rfl rfl) ?_
        refine LW.q rfl (Qt.extract rfl rfl) ?_
        refine LW.q rfl (Qt.assign rfl) ?_
        refine LW.q rfl (Qt.assign rfl) ?_
        refine LW.done ?_
        refine T.seq ?_
        refine T.region ?_
        refine LW.q rfl (Qt.move rfl) ?_
        refine LW.q rfl (Qt.eql rfl rfl) ?_
        refine LW.done ?_
        first | refine T.condF rfl ?_ | refine T.condPF rfl (by omega) ?_ | refine T.condBF rfl (by omega) ?_
        refine T.skip ?_
        refine T.region ?_
        refine LW.q rfl (Qt.add rfl rfl (wr64 (by omega) (by omega))) ?_
        refine LW.q rfl (Qt.move rfl) ?_
        refine LW.done ?_
        refine ⟨_, ?_, _, ⟨_, k + 1, n, recs, q, c, ⟨by omega, hus, hn⟩, rfl, (updS rfl (updS rfl (updS rfl (updS rfl (updS rfl rfl))))), rfl⟩, Sub.any⟩
        first | omega | (simp; omega)
    · skip
      clear hac hlt hk
      refine T.own (fun w ho => ?_)
      have hq : 0 < n → ∃ g, q = some ⟨g, 0, none⟩ := (ho.take (A := strR q n c recs)).slice_at (p := q) (m := n) (c := c) |>.2.1
      clear ho
      obtain ⟨r, hr⟩ : ∃ r, roomR recs = r := ⟨_, rfl⟩
      have hr2 : r = min (242 - usedR recs) 200 := by rw [← hr]; rfl
      refine T.exit ?_
      refine T.seq ?_
      refine T.region ?_
      refine LW.q rfl (Qt.move rfl) ?_
      refine LW.e rfl (Ef.call (Pg.room B gp recs 0 hus) Tryd.func22 rfl rfl rfl ?_)
      rintro _ _ ⟨rfl, rfl⟩
      try simp only [List.cons_append, List.nil_append]
      rw [hr]
      refine LW.q rfl (Qt.assign rfl) ?_
      refine LW.done ?_
      refine T.seq ?_
      refine T.seq ?_
      refine T.region ?_
      refine LW.q rfl (Qt.move rfl) ?_
      refine LW.q rfl (Qt.lss rfl rfl) ?_
      refine LW.q rfl (Qt.move rfl) ?_
      first | refine LW.gF (t := 51) rfl rfl ?_ | refine LW.gF (t := 51) rfl (decide_eq_false (by omega)) ?_ | refine LW.gF (t := 51) rfl (by omega) ?_
      refine LW.q rfl (Qt.move rfl) ?_
      refine LW.q rfl (Qt.gtr rfl rfl) ?_
      refine LW.q rfl (Qt.pick rfl rfl) ?_
      refine LW.done ?_
      first | refine T.condF rfl ?_ | refine T.condPF rfl (by omega) ?_ | refine T.condBF rfl (by omega) ?_
      refine T.skip ?_
      refine T.seq ?_
      refine T.seq ?_
      refine T.region ?_
      refine LW.q rfl (Qt.move rfl) ?_
      refine LW.q rfl (Qt.lss rfl rfl) ?_
      refine LW.done ?_
      refine T.condP rfl (fun h200 => ?_) (fun h200 => ?_)
      · skip
        refine T.seq ?_
        refine T.region ?_
        refine LW.q rfl (Qt.move rfl) ?_
        refine LW.q rfl (Qt.move rfl) ?_
        refine LW.q rfl (Qt.add rfl rfl (wr64 (by omega) (by omega))) ?_
        refine LW.e rfl (Ef.make (r + 1) (.int .u8 0) 1 Cd.elemB (by kernel_rfl) rfl rfl rfl rfl (by omega) (by unfold maxLen; omega) ?_)
        rintro g61
        try simp only [List.cons_append, List.nil_append]
        rw [made_bytes]
        refine LW.e rfl (Ef.call (Pg.addAny B [rB (.slice (some ⟨g61, 0, none⟩) (r + 1) (r + 1)) (r + 1) (List.replicate (r + 1) 0)] gp recs 0 (some ⟨g61, 0, none⟩) (r + 1) (r + 1) (List.replicate (r + 1) 0) (RdV.rB (by simp) (fun _ => ⟨_, rfl⟩)) (by simp) hus) Tryd.func14 rfl rfl rfl ?_)
        rintro _ _ ⟨rfl, rfl⟩
        try simp only [List.cons_append, List.nil_append]
        simp only [show addR recs (List.replicate (r + 1) 0) = (recs, 0, 3) from addR_full (by simp; omega) (by simp; omega)]
        refine LW.q rfl (Qt.move rfl) ?_
        refine LW.q rfl (Qt.extract rfl rfl) ?_
        refine LW.q rfl (Qt.extract rfl rfl) ?_
        refine LW.q rfl (Qt.assign rfl) ?_
        refine LW.q rfl (Qt.assign rfl) ?_
        refine LW.done ?_
        refine T.seq ?_
        refine T.region ?_
        refine LW.q rfl (Qt.move rfl) ?_
        refine LW.q rfl (Qt.neq rfl rfl) ?_
        refine LW.done ?_
        first | refine T.condF rfl ?_ | refine T.condPF rfl (by omega) ?_ | refine T.condBF rfl (by omega) ?_
        refine T.skip ?_
        refine T.seq ?_
        refine T.region ?_
        refine LW.q rfl (Qt.move rfl) ?_
        refine LW.q rfl (Qt.move rfl) ?_
        refine LW.e rfl (Ef.make r (.int .u8 0) 1 Cd.elemB (by kernel_rfl) rfl rfl rfl rfl (by omega) (by unfold maxLen; omega) ?_)
        rintro g70
        try simp only [List.cons_append, List.nil_append]
        rw [made_bytes]
        obtain ⟨recs2, e2, n2, hR, hpre, hee⟩ : ∃ recs2 e2 n2, addR recs (List.replicate r 0) = (recs2, n2, e2) ∧ recs <+: recs2 ∧ (e2 = 0 ∨ (e2 = 3 ∧ r = 0)) := roomy_second hus hr2
        refine LW.e rfl (Ef.call (Pg.addAny B [rB (.slice (some ⟨g70, 0, none⟩) r r) r (List.replicate r 0)] gp recs 0 (some ⟨g70, 0, none⟩) r r (List.replicate r 0) (RdV.rB (by simp) (fun _ => ⟨_, rfl⟩)) (by simp) hus) Tryd.func14 rfl rfl rfl ?_)
        rintro _ _ ⟨rfl, rfl⟩
        try simp only [List.cons_append, List.nil_append]
        simp only [hR]
        refine LW.q rfl (Qt.move rfl) ?_
        refine LW.q rfl (Qt.extract rfl rfl) ?_
        refine LW.q rfl (Qt.extract rfl rfl) ?_
        refine LW.q rfl (Qt.assign rfl) ?_
        refine LW.q rfl (Qt.assign rfl) ?_
        refine LW.done ?_
        refine T.seq ?_
        refine T.seq ?_
        refine T.region ?_
        refine LW.q rfl (Qt.move rfl) ?_
        refine LW.q rfl (Qt.neq rfl rfl) ?_
        refine LW.q rfl (Qt.move rfl) ?_
        by_cases he0 : e2 = 0
        · skip
          subst he0
          first | refine LW.gF (t := 76) rfl rfl ?_ | refine LW.gF (t := 76) rfl (decide_eq_false (by omega)) ?_ | refine LW.gF (t := 76) rfl (by omega) ?_
          refine LW.s rfl ?_
          refine LW.s rfl ?_
          refine LW.s rfl ?_
          refine LW.s rfl ?_
          refine LW.s rfl ?_
          refine LW.s rfl ?_
          refine LW.q rfl (Qt.pick rfl rfl) ?_
          refine LW.done ?_
          first | refine T.condF rfl ?_ | refine T.condPF rfl (by omega) ?_ | refine T.condBF rfl (by omega) ?_
          refine T.skip ?_
          refine T.seq ?_
          refine T.seq ?_
          refine T.region ?_
          refine LW.q rfl (Qt.move rfl) ?_
          refine LW.q rfl (Qt.len (e := 9) (sz := 1) (by kernel_rfl) rfl) ?_
          refine LW.q rfl (Qt.move rfl) ?_
          refine LW.done ?_
          refine T.block ?_
          refine T.loop (fun mz fz lz => ∃ (f0 : Fr) (i : Nat), (i ≤ n) ∧ mz = n - i ∧ fz = (upd (upd (upd (upd f0 3 (.pointer (some ⟨gp, 0, none⟩))) 84 (.slice q n c)) 85 (.int .i64 n)) 86 (.int .i64 i)) ∧ lz = pgA gp recs2 0 :: strR q n c recs :: F) ?_ ?_
          · refine ⟨_, _, ⟨_, 0, Nat.zero_le _, rfl, (updS rfl (updS rfl (updS rfl (updS rfl rfl)))), rfl⟩, Sub.any⟩
          · skip
            rintro mz fz lz ⟨f0, i, hi, hmz, rfl, rfl⟩
            subst mz
            try simp only [List.cons_append, List.nil_append]
            refine T.seq ?_
            refine T.region ?_
            refine LW.q rfl (Qt.lss rfl rfl) ?_
            refine LW.done ?_
            refine T.seq ?_
            refine T.condP rfl (fun hil => ?_) (fun hil => ?_)
            · skip
              obtain ⟨gq, rfl⟩ := hq (by omega)
              obtain ⟨b, hb⟩ : ∃ b, recs[i]? = some b := ⟨_, List.getElem?_eq_getElem (by omega)⟩
              have hb2 : recs2[i]? = some b := by obtain ⟨t, rfl⟩ := hpre; rw [List.getElem?_append_left (by omega)]; exact hb
              refine T.skip ?_
              refine T.seq ?_
              refine T.block ?_
              refine T.seq ?_
              refine T.region ?_
              refine LW.q rfl (Qt.move rfl) ?_
              refine LW.q rfl (Qt.index _ (e := 9) (sz := 1) (by kernel_rfl) rfl rfl rfl (by omega)) ?_
              refine LW.q rfl (Qt.load (v := strV b) (by kernel_rfl) rfl (by simp [hb])) ?_
              refine LW.q rfl (Qt.assign rfl) ?_
              refine LW.q rfl (Qt.assign rfl) ?_
              refine LW.done ?_
              refine T.seq ?_
              refine T.region ?_
              refine LW.q rfl (Qt.move rfl) ?_
              refine LW.q rfl (Qt.move rfl) ?_
              refine LW.e rfl (Ef.call (Pg.getE B gp recs2 0 i i b.length b rfl hb2 rfl) Tryd.func17 rfl rfl rfl ?_)
              rintro _ _ ⟨p3, c3, rfl, rfl⟩
              try simp only [List.cons_append, List.nil_append]
              refine LW.q rfl (Qt.move rfl) ?_
              refine LW.q rfl (Qt.extract rfl rfl) ?_
              refine LW.q rfl (Qt.extract rfl rfl) ?_
              refine LW.q rfl (Qt.assign rfl) ?_
              refine LW.q rfl (Qt.assign rfl) ?_
              refine LW.done ?_
              refine T.seq ?_
              refine T.region ?_
              refine LW.q rfl (Qt.move rfl) ?_
              refine LW.q rfl (Qt.neq rfl rfl) ?_
              refine LW.q rfl (Qt.move rfl) ?_
              first | refine LW.gF (t := 99) rfl rfl ?_ | refine LW.gF (t := 99) rfl (decide_eq_false (by omega)) ?_ | refine LW.gF (t := 99) rfl (by omega) ?_
              refine LW.q rfl (Qt.move rfl) ?_
              refine LW.q rfl (Qt.str b (by kernel_rfl) (by kernel_rfl) rfl (fun _ ho => ho.reads_row rfl)) ?_
              refine LW.q rfl (Qt.move rfl) ?_
              refine LW.q rfl (Qt.neqS rfl rfl) ?_
              refine LW.q rfl (Qt.pick rfl rfl) ?_
              refine LW.done ?_
              first | refine T.condF rfl ?_ | refine T.condPF rfl ((by simp)) ?_ | refine T.condBF rfl ((by simp)) ?_
              refine T.skip ?_
              refine T.region ?_
              refine LW.q rfl (Qt.add rfl rfl (wr64 (by omega) (by omega))) ?_
              refine LW.q rfl (Qt.move rfl) ?_
              refine LW.done ?_
              refine ⟨_, ?_, _, ⟨_, i + 1, by omega, rfl, (updS rfl (updS rfl (updS rfl (updS rfl rfl)))), rfl⟩, Sub.any⟩
              first | omega | (simp; omega)
            · skip
              refine T.exit ?_
              refine T.seq ?_
              refine T.region ?_
              refine LW.q rfl (Qt.assign rfl) ?_
              refine LW.done ?_
              refine T.ret ?_
              exact ⟨.inl rfl, _, _, res [_] rfl ⟨rvT rfl, trivial⟩, ⟨rfl, rfl⟩, Sub.any⟩
        · skip
          obtain ⟨rfl, hr0⟩ : e2 = 3 ∧ r = 0 := hee.resolve_left he0
          first | refine LW.gT (t := 76) rfl rfl ?_ | refine LW.gT (t := 76) rfl (decide_eq_true (by omega)) ?_ | refine LW.gT (t := 76) rfl (by omega) ?_
          refine LW.q rfl (Qt.move rfl) ?_
          refine LW.q rfl (Qt.gtr rfl rfl) ?_
          refine LW.q rfl (Qt.move rfl) ?_
          first | refine LW.gF (t := 79) rfl rfl ?_ | refine LW.gF (t := 79) rfl (decide_eq_false (by omega)) ?_ | refine LW.gF (t := 79) rfl (by omega) ?_
          refine LW.q rfl (Qt.move rfl) ?_
          refine LW.q rfl (Qt.neq rfl rfl) ?_
          refine LW.q rfl (Qt.pick rfl rfl) ?_
          refine LW.q rfl (Qt.pick rfl rfl) ?_
          refine LW.done ?_
          first | refine T.condF rfl ?_ | refine T.condPF rfl (by omega) ?_ | refine T.condBF rfl (by omega) ?_
          refine T.skip ?_
          refine T.seq ?_
          refine T.seq ?_
          refine T.region ?_
          refine LW.q rfl (Qt.move rfl) ?_
          refine LW.q rfl (Qt.len (e := 9) (sz := 1) (by kernel_rfl) rfl) ?_
          refine LW.q rfl (Qt.move rfl) ?_
          refine LW.done ?_
          refine T.block ?_
          refine T.loop (fun mz fz lz => ∃ (f0 : Fr) (i : Nat), (i ≤ n) ∧ mz = n - i ∧ fz = (upd (upd (upd (upd f0 3 (.pointer (some ⟨gp, 0, none⟩))) 84 (.slice q n c)) 85 (.int .i64 n)) 86 (.int .i64 i)) ∧ lz = pgA gp recs2 0 :: strR q n c recs :: F) ?_ ?_
          · refine ⟨_, _, ⟨_, 0, Nat.zero_le _, rfl, (updS rfl (updS rfl (updS rfl (updS rfl rfl)))), rfl⟩, Sub.any⟩
          · skip
            rintro mz fz lz ⟨f0, i, hi, hmz, rfl, rfl⟩
            subst mz
            try simp only [List.cons_append, List.nil_append]
            refine T.seq ?_
            refine T.region ?_
            refine LW.q rfl (Qt.lss rfl rfl) ?_
            refine LW.done ?_
            refine T.seq ?_
            refine T.condP rfl (fun hil => ?_) (fun hil => ?_)
            · skip
              obtain ⟨gq, rfl⟩ := hq (by omega)
              obtain ⟨b, hb⟩ : ∃ b, recs[i]? = some b := ⟨_, List.getElem?_eq_getElem (by omega)⟩
              have hb2 : recs2[i]? = some b := by obtain ⟨t, rfl⟩ := hpre; rw [List.getElem?_append_left (by omega)]; exact hb
              refine T.skip ?_
              refine T.seq ?_
              refine T.block ?_
              refine T.seq ?_
              refine T.region ?_
              refine LW.q rfl (Qt.move rfl) ?_
              refine LW.q rfl (Qt.index _ (e := 9) (sz := 1) (by kernel_rfl) rfl rfl rfl (by omega)) ?_
              refine LW.q rfl (Qt.load (v := strV b) (by kernel_rfl) rfl (by simp [hb])) ?_
              refine LW.q rfl (Qt.assign rfl) ?_
              refine LW.q rfl (Qt.assign rfl) ?_
              refine LW.done ?_
              refine T.seq ?_
              refine T.region ?_
              refine LW.q rfl (Qt.move rfl) ?_
              refine LW.q rfl (Qt.move rfl) ?_
              refine LW.e rfl (Ef.call (Pg.getE B gp recs2 0 i i b.length b rfl hb2 rfl) Tryd.func17 rfl rfl rfl ?_)
              rintro _ _ ⟨p3, c3, rfl, rfl⟩
              try simp only [List.cons_append, List.nil_append]
              refine LW.q rfl (Qt.move rfl) ?_
              refine LW.q rfl (Qt.extract rfl rfl) ?_
              refine LW.q rfl (Qt.extract rfl rfl) ?_
              refine LW.q rfl (Qt.assign rfl) ?_
              refine LW.q rfl (Qt.assign rfl) ?_
              refine LW.done ?_
              refine T.seq ?_
              refine T.region ?_
              refine LW.q rfl (Qt.move rfl) ?_
              refine LW.q rfl (Qt.neq rfl rfl) ?_
              refine LW.q rfl (Qt.move rfl) ?_
              first | refine LW.gF (t := 99) rfl rfl ?_ | refine LW.gF (t := 99) rfl (decide_eq_false (by omega)) ?_ | refine LW.gF (t := 99) rfl (by omega) ?_
              refine LW.q rfl (Qt.move rfl) ?_
              refine LW.q rfl (Qt.str b (by kernel_rfl) (by kernel_rfl) rfl (fun _ ho => ho.reads_row rfl)) ?_
              refine LW.q rfl (Qt.move rfl) ?_
              refine LW.q rfl (Qt.neqS rfl rfl) ?_
              refine LW.q rfl (Qt.pick rfl rfl) ?_
              refine LW.done ?_
              first | refine T.condF rfl ?_ | refine T.condPF rfl ((by simp)) ?_ | refine T.condBF rfl ((by simp)) ?_
              refine T.skip ?_
              refine T.region ?_
              refine LW.q rfl (Qt.add rfl rfl (wr64 (by omega) (by omega))) ?_
              refine LW.q rfl (Qt.move rfl) ?_
              refine LW.done ?_
              refine ⟨_, ?_, _, ⟨_, i + 1, by omega, rfl, (updS rfl (updS rfl (updS rfl (updS rfl rfl)))), rfl⟩, Sub.any⟩
              first | omega | (simp; omega)
            · skip
              refine T.exit ?_
              refine T.seq ?_
              refine T.region ?_
              refine LW.q rfl (Qt.assign rfl) ?_
              refine LW.done ?_
              refine T.ret ?_
              exact ⟨.inl rfl, _, _, res [_] rfl ⟨rvT rfl, trivial⟩, ⟨rfl, rfl⟩, Sub.any⟩
      · skip
        refine T.skip ?_
        refine T.seq ?_
        refine T.region ?_
        refine LW.q rfl (Qt.move rfl) ?_
        refine LW.q rfl (Qt.move rfl) ?_
        refine LW.e rfl (Ef.make r (.int .u8 0) 1 Cd.elemB (by kernel_rfl) rfl rfl rfl rfl (by omega) (by unfold maxLen; omega) ?_)
        rintro g70
        try simp only [List.cons_append, List.nil_append]
        rw [made_bytes]
        obtain ⟨recs2, e2, n2, hR, hpre, hee⟩ : ∃ recs2 e2 n2, addR recs (List.replicate r 0) = (recs2, n2, e2) ∧ recs <+: recs2 ∧ (e2 = 0 ∨ (e2 = 3 ∧ r = 0)) := roomy_second hus hr2
        refine LW.e rfl (Ef.call (Pg.addAny B [rB (.slice (some ⟨g70, 0, none⟩) r r) r (List.replicate r 0)] gp recs 0 (some ⟨g70, 0, none⟩) r r (List.replicate r 0) (RdV.rB (by simp) (fun _ => ⟨_, rfl⟩)) (by simp) hus) Tryd.func14 rfl rfl rfl ?_)
        rintro _ _ ⟨rfl, rfl⟩
        try simp only [List.cons_append, List.nil_append]
        simp only [hR]
        refine LW.q rfl (Qt.move rfl) ?_
        refine LW.q rfl (Qt.extract rfl rfl) ?_
        refine LW.q rfl (Qt.extract rfl rfl) ?_
        refine LW.q rfl (Qt.assign rfl) ?_
        refine LW.q rfl (Qt.assign rfl) ?_
        refine LW.done ?_
        refine T.seq ?_
        refine T.seq ?_
        refine T.region ?_
        refine LW.q rfl (Qt.move rfl) ?_
        refine LW.q rfl (Qt.neq rfl rfl) ?_
        refine LW.q rfl (Qt.move rfl) ?_
        by_cases he0 : e2 = 0
        · skip
          subst he0
          first | refine LW.gF (t := 76) rfl rfl ?_ | refine LW.gF (t := 76) rfl (decide_eq_false (by omega)) ?_ | refine LW.gF (t := 76) rfl (by omega) ?_
          refine LW.s rfl ?_
          refine LW.s rfl ?_
          refine LW.s rfl ?_
          refine LW.s rfl ?_
          refine LW.s rfl ?_
          refine LW.s rfl ?_
          refine LW.q rfl (Qt.pick rfl rfl) ?_
          refine LW.done ?_
          first | refine T.condF rfl ?_ | refine T.condPF rfl (by omega) ?_ | refine T.condBF rfl (by omega) ?_
          refine T.skip ?_
          refine T.seq ?_
          refine T.seq ?_
          refine T.region ?_
          refine LW.q rfl (Qt.move rfl) ?_
          refine LW.q rfl (Qt.len (e := 9) (sz := 1) (by kernel_rfl) rfl) ?_
          refine LW.q rfl (Qt.move rfl) ?_
          refine LW.done ?_
          refine T.block ?_
          refine T.loop (fun mz fz lz => ∃ (f0 : Fr) (i : Nat), (i ≤ n) ∧ mz = n - i ∧ fz = (upd (upd (upd (upd f0 3 (.pointer (some ⟨gp, 0, none⟩))) 84 (.slice q n c)) 85 (.int .i64 n)) 86 (.int .i64 i)) ∧ lz = pgA gp recs2 0 :: strR q n c recs :: F) ?_ ?_
          · refine ⟨_, _, ⟨_, 0, Nat.zero_le _, rfl, (updS rfl (updS rfl (updS rfl (updS rfl rfl)))), rfl⟩, Sub.any⟩
          · skip
            rintro mz fz lz ⟨f0, i, hi, hmz, rfl, rfl⟩
            subst mz
            try simp only [List.cons_append, List.nil_append]
            refine T.seq ?_
            refine T.region ?_
            refine LW.q rfl (Qt.lss rfl rfl) ?_
            refine LW.done ?_
            refine T.seq ?_
            refine T.condP rfl (fun hil => ?_) (fun hil => ?_)
            · skip
              obtain ⟨gq, rfl⟩ := hq (by omega)
              obtain ⟨b, hb⟩ : ∃ b, recs[i]? = some b := ⟨_, List.getElem?_eq_getElem (by omega)⟩
              have hb2 : recs2[i]? = some b := by obtain ⟨t, rfl⟩ := hpre; rw [List.getElem?_append_left (by omega)]; exact hb
              refine T.skip ?_
              refine T.seq ?_
              refine T.block ?_
              refine T.seq ?_
              refine T.region ?_
              refine LW.q rfl (Qt.move rfl) ?_
              refine LW.q rfl (Qt.index _ (e := 9) (sz := 1) (by kernel_rfl) rfl rfl rfl (by omega)) ?_
              refine LW.q rfl (Qt.load (v := strV b) (by kernel_rfl) rfl (by simp [hb])) ?_
              refine LW.q rfl (Qt.assign rfl) ?_
              refine LW.q rfl (Qt.assign rfl) ?_
              refine LW.done ?_
              refine T.seq ?_
              refine T.region ?_
              refine LW.q rfl (Qt.move rfl) ?_
              refine LW.q rfl (Qt.move rfl) ?_
              refine LW.e rfl (Ef.call (Pg.getE B gp recs2 0 i i b.length b rfl hb2 rfl) Tryd.func17 rfl rfl rfl ?_)
              rintro _ _ ⟨p3, c3, rfl, rfl⟩
              try simp only [List.cons_append, List.nil_append]
              refine LW.q rfl (Qt.move rfl) ?_
              refine LW.q rfl (Qt.extract rfl rfl) ?_
              refine LW.q rfl (Qt.extract rfl rfl) ?_
              refine LW.q rfl (Qt.assign rfl) ?_
              refine LW.q rfl (Qt.assign rfl) ?_
              refine LW.done ?_
              refine T.seq ?_
              refine T.region ?_
              refine LW.q rfl (Qt.move rfl) ?_
              refine LW.q rfl (Qt.neq rfl rfl) ?_
              refine LW.q rfl (Qt.move rfl) ?_
              first | refine LW.gF (t := 99) rfl rfl ?_ | refine LW.gF (t := 99) rfl (decide_eq_false (by omega)) ?_ | refine LW.gF (t := 99) rfl (by omega) ?_
              refine LW.q rfl (Qt.move rfl) ?_
              refine LW.q rfl (Qt.str b (by kernel_rfl) (by kernel_rfl) rfl (fun _ ho => ho.reads_row rfl)) ?_
              refine LW.q rfl (Qt.move rfl) ?_
              refine LW.q rfl (Qt.neqS rfl rfl) ?_
              refine LW.q rfl (Qt.pick rfl rfl) ?_
              refine LW.done ?_
              first | refine T.condF rfl ?_ | refine T.condPF rfl ((by simp)) ?_ | refine T.condBF rfl ((by simp)) ?_
              refine T.skip ?_
              refine T.region ?_
              refine LW.q rfl (Qt.add rfl rfl (wr64 (by omega) (by omega))) ?_
              refine LW.q rfl (Qt.move rfl) ?_
              refine LW.done ?_
              refine ⟨_, ?_, _, ⟨_, i + 1, by omega, rfl, (updS rfl (updS rfl (updS rfl (updS rfl rfl)))), rfl⟩, Sub.any⟩
              first | omega | (simp; omega)
            · skip
              refine T.exit ?_
              refine T.seq ?_
              refine T.region ?_
              refine LW.q rfl (Qt.assign rfl) ?_
              refine LW.done ?_
              refine T.ret ?_
              exact ⟨.inl rfl, _, _, res [_] rfl ⟨rvT rfl, trivial⟩, ⟨rfl, rfl⟩, Sub.any⟩
        · skip
          obtain ⟨rfl, hr0⟩ : e2 = 3 ∧ r = 0 := hee.resolve_left he0
          first | refine LW.gT (t := 76) rfl rfl ?_ | refine LW.gT (t := 76) rfl (decide_eq_true (by omega)) ?_ | refine LW.gT (t := 76) rfl (by omega) ?_
          refine LW.q rfl (Qt.move rfl) ?_
          refine LW.q rfl (Qt.gtr rfl rfl) ?_
          refine LW.q rfl (Qt.move rfl) ?_
          first | refine LW.gF (t := 79) rfl rfl ?_ | refine LW.gF (t := 79) rfl (decide_eq_false (by omega)) ?_ | refine LW.gF (t := 79) rfl (by omega) ?_
          refine LW.q rfl (Qt.move rfl) ?_
          refine LW.q rfl (Qt.neq rfl rfl) ?_
          refine LW.q rfl (Qt.pick rfl rfl) ?_
          refine LW.q rfl (Qt.pick rfl rfl) ?_
          refine LW.done ?_
          first | refine T.condF rfl ?_ | refine T.condPF rfl (by omega) ?_ | refine T.condBF rfl (by omega) ?_
          refine T.skip ?_
          refine T.seq ?_
          refine T.seq ?_
          refine T.region ?_
          refine LW.q rfl (Qt.move rfl) ?_
          refine LW.q rfl (Qt.len (e := 9) (sz := 1) (by kernel_rfl) rfl) ?_
          refine LW.q rfl (Qt.move rfl) ?_
          refine LW.done ?_
          refine T.block ?_
          refine T.loop (fun mz fz lz => ∃ (f0 : Fr) (i : Nat), (i ≤ n) ∧ mz = n - i ∧ fz = (upd (upd (upd (upd f0 3 (.pointer (some ⟨gp, 0, none⟩))) 84 (.slice q n c)) 85 (.int .i64 n)) 86 (.int .i64 i)) ∧ lz = pgA gp recs2 0 :: strR q n c recs :: F) ?_ ?_
          · refine ⟨_, _, ⟨_, 0, Nat.zero_le _, rfl, (updS rfl (updS rfl (updS rfl (updS rfl rfl)))), rfl⟩, Sub.any⟩
          · skip
            rintro mz fz lz ⟨f0, i, hi, hmz, rfl, rfl⟩
            subst mz
            try simp only [List.cons_append, List.nil_append]
            refine T.seq ?_
            refine T.region ?_
            refine LW.q rfl (Qt.lss rfl rfl) ?_
            refine LW.done ?_
            refine T.seq ?_
            refine T.condP rfl (fun hil => ?_) (fun hil => ?_)
            · skip
              obtain ⟨gq, rfl⟩ := hq (by omega)
              obtain ⟨b, hb⟩ : ∃ b, recs[i]? = some b := ⟨_, List.getElem?_eq_getElem (by omega)⟩
              have hb2 : recs2[i]? = some b := by obtain ⟨t, rfl⟩ := hpre; rw [List.getElem?_append_left (by omega)]; exact hb
              refine T.skip ?_
              refine T.seq ?_
              refine T.block ?_
              refine T.seq ?_
              refine T.region ?_
              refine LW.q rfl (Qt.move rfl) ?_
              refine LW.q rfl (Qt.index _ (e := 9) (sz := 1) (by kernel_rfl) rfl rfl rfl (by omega)) ?_
              refine LW.q rfl (Qt.load (v := strV b) (by kernel_rfl) rfl (by simp [hb])) ?_
              refine LW.q rfl (Qt.assign rfl) ?_
              refine LW.q rfl (Qt.assign rfl) ?_
              refine LW.done ?_
              refine T.seq ?_
              refine T.region ?_
              refine LW.q rfl (Qt.move rfl) ?_
              refine LW.q rfl (Qt.move rfl) ?_
              refine LW.e rfl (Ef.call (Pg.getE B gp recs2 0 i i b.length b rfl hb2 rfl) Tryd.func17 rfl rfl rfl ?_)
              rintro _ _ ⟨p3, c3, rfl, rfl⟩
              try simp only [List.cons_append, List.nil_append]
              refine LW.q rfl (Qt.move rfl) ?_
              refine LW.q rfl (Qt.extract rfl rfl) ?_
              refine LW.q rfl (Qt.extract rfl rfl) ?_
              refine LW.q rfl (Qt.assign rfl) ?_
              refine LW.q rfl (Qt.assign rfl) ?_
              refine LW.done ?_
              refine T.seq ?_
              refine T.region ?_
              refine LW.q rfl (Qt.move rfl) ?_
              refine LW.q rfl (Qt.neq rfl rfl) ?_
              refine LW.q rfl (Qt.move rfl) ?_
              first | refine LW.gF (t := 99) rfl rfl ?_ | refine LW.gF (t := 99) rfl (decide_eq_false (by omega)) ?_ | refine LW.gF (t := 99) rfl (by omega) ?_
              refine LW.q rfl (Qt.move rfl) ?_
              refine LW.q rfl (Qt.str b (by kernel_rfl) (by kernel_rfl) rfl (fun _ ho => ho.reads_row rfl)) ?_
              refine LW.q rfl (Qt.move rfl) ?_
              refine LW.q rfl (Qt.neqS rfl rfl) ?_
              refine LW.q rfl (Qt.pick rfl rfl) ?_
              refine LW.done ?_
              first | refine T.condF rfl ?_ | refine T.condPF rfl ((by simp)) ?_ | refine T.condBF rfl ((by simp)) ?_
              refine T.skip ?_
              refine T.region ?_
              refine LW.q rfl (Qt.add rfl rfl (wr64 (by omega) (by omega))) ?_
              refine LW.q rfl (Qt.move rfl) ?_
              refine LW.done ?_
              refine ⟨_, ?_, _, ⟨_, i + 1, by omega, rfl, (updS rfl (updS rfl (updS rfl (updS rfl rfl)))), rfl⟩, Sub.any⟩
              first | omega | (simp; omega)
            · skip
              refine T.exit ?_
              refine T.seq ?_
              refine T.region ?_
              refine LW.q rfl (Qt.assign rfl) ?_
              refine LW.done ?_
              refine T.ret ?_
              exact ⟨.inl rfl, _, _, res [_] rfl ⟨rvT rfl, trivial⟩, ⟨rfl, rfl⟩, Sub.any⟩
end Go.Proofs.YtjjhbpjbngdlnaaDoor
