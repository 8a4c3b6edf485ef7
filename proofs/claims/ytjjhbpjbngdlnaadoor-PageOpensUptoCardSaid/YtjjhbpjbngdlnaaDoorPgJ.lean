/- The statement PageOpens. Conditions: that what is handed in can be read; sizes. -/
import Derived.Test.YtjjhbpjbngdlnaaDoorRcD
namespace Go.Proofs.YtjjhbpjbngdlnaaDoor
open Go.RowKit

theorem Rc.open_err {P : Program} {B : Base} {f : FuncId} {args : Array Value} {a : List UInt8} {e : Int} (h : openR a = .error e) (H : Fn P B f args [] (ROpenPost a)) : Fn P B f args [] (fun v l => v = .tuple #[.agg #[.slice none 0 0, .int .i64 0], .int .i64 e] ∧ l = []) := H.mono fun v l hp => by
  unfold ROpenPost at hp; rw [h] at hp; exact hp
theorem Rc.open_ok {P : Program} {B : Base} {f : FuncId} {args : Array Value} {a : List UInt8} {recs : List (List UInt8)} {mark : Int} (h : openR a = .ok (recs, mark)) (H : Fn P B f args [] (ROpenPost a)) : Fn P B f args [] (fun v l => ∃ q c, v = .tuple #[.agg #[.slice q recs.length c, .int .i64 mark], .int .i64 0] ∧ l = [strR q recs.length c recs]) := H.mono fun v l hp => by
  unfold ROpenPost at hp; rw [h] at hp; exact hp
theorem openR_codes {b : List UInt8} {e : Int} (h : openR b = .error e) : e = 10 ∨ e = 30 ∨ e = 31 := by
  by_cases hb : b.length = 256
  · exact .inr (openR_err hb h)
  · rw [openR_10 hb] at h; injection h with h; exact .inl h.symm
theorem openR_used {b : List UInt8} {recs : List (List UInt8)} {mark : Int} (h : openR b = .ok (recs, mark)) : usedR recs ≤ 243 := by
  unfold openR at h
  split at h
  · cases h
  · split at h
    · cases h
    · split at h
      · cases h
      · rename_i r h3
        injection h with h
        injection h with h4 h5
        subst h4
        have := (parseR_some h3).2.2.1
        simp at this
        omega
theorem openR_len {b : List UInt8} {x : List (List UInt8) × Int} (h : openR b = .ok x) : b.length = 256 := by
  unfold openR at h
  split at h
  · cases h
  · omega

set_option maxHeartbeats 4000000 in
set_option maxRecDepth 100000 in
theorem Pg.opens (B : Base) (ba : Option Addr) (bc : Nat) (b : List UInt8) (hb : RoS B (.slice ba b.length bc) (bytesV b)) (hc : b.length ≤ bc) (hl : b.length ≤ 1048576) : Fn Tryd.prog B 4 #[.slice ba b.length bc] [] (fun v l => v = .bool true ∧ l = []) := by
  refine Fn.enter1 80 Tryd.func4 rfl rfl (Nat.le_of_ble_eq_true rfl) (fun F => ?_)
  try simp only [List.cons_append, List.nil_append]
  refine T.seq ?_
  refine T.region ?_
  refine LW.q rfl (Qt.assign rfl) ?_
  refine LW.done ?_
  refine T.seq ?_
  refine T.seq ?_
  refine T.region ?_
  refine LW.e rfl (Ef.call (Pg.awake B) Tryd.func12 rfl rfl rfl ?_)
  rintro _ _ ⟨rfl, rfl⟩
  try simp only [List.cons_append, List.nil_append]
  first | refine LW.q rfl (Qt.notP rfl) ?_ | refine LW.q rfl (Qt.notB rfl) ?_
  refine LW.done ?_
  first | refine T.condF rfl ?_ | refine T.condPF rfl (by omega) ?_ | refine T.condBF rfl (by omega) ?_
  by_cases he : ∃ e, openR b = .error e
  · skip
    obtain ⟨e, he⟩ := he
    have hev := openR_codes he
    refine T.skip ?_
    refine T.seq ?_
    refine T.region ?_
    refine LW.q rfl (Qt.move rfl) ?_
    refine LW.e rfl (Ef.call (Pg.open_err he (Pg.open B [] ba b.length bc b (hb.rd []) rfl hc (by omega))) Tryd.func15 rfl rfl rfl ?_)
    rintro _ _ ⟨rfl, rfl⟩
    try simp only [List.cons_append, List.nil_append]
    refine LW.q rfl (Qt.move rfl) ?_
    refine LW.q rfl (Qt.extract rfl rfl) ?_
    refine LW.q rfl (Qt.extract rfl rfl) ?_
    refine LW.q rfl (Qt.assign rfl) ?_
    refine LW.q rfl (Qt.assign rfl) ?_
    refine LW.done ?_
    refine T.seq ?_
    refine T.region ?_
    refine LW.q rfl (Qt.move rfl) ?_
    refine LW.q rfl (Qt.str b (by kernel_rfl) (by kernel_rfl) rfl (hb.rd _).str) ?_
    refine LW.e rfl (Ef.call (Rc.open_err he (Rc.open B b (by omega))) Tryd.func19 rfl rfl rfl ?_)
    rintro _ _ ⟨rfl, rfl⟩
    try simp only [List.cons_append, List.nil_append]
    refine LW.q rfl (Qt.move rfl) ?_
    refine LW.q rfl (Qt.extract rfl rfl) ?_
    refine LW.q rfl (Qt.extract rfl rfl) ?_
    refine LW.e rfl (Ef.alloc [.slice none 0 0, .int .i64 0] (by unfold zeroB; kernel_rfl) ?_)
    intro g5
    refine LW.e0 rfl (Ef.store [_, _] (by kernel_rfl) rfl rfl rfl rfl (by simp) ?_)
    try simp only [splice, List.length_cons, List.length_nil, List.drop_succ_cons, List.cons_append, List.take_succ_cons, List.take_zero, List.drop_zero, List.nil_append, List.append_nil]
    refine LW.q rfl (Qt.assign rfl) ?_
    refine LW.done ?_
    refine T.seq ?_
    refine T.seq ?_
    refine T.region ?_
    refine LW.q rfl (Qt.move rfl) ?_
    refine LW.q rfl (Qt.move rfl) ?_
    refine LW.q rfl (Qt.neq rfl rfl) ?_
    refine LW.q rfl (Qt.move rfl) ?_
    first | refine LW.gF (t := 27) rfl rfl ?_ | refine LW.gF (t := 27) rfl (decide_eq_false (by omega)) ?_ | refine LW.gF (t := 27) rfl (by omega) ?_
    refine LW.q rfl (Qt.move rfl) ?_
    first | refine LW.q rfl (Qt.eqlNil (by kernel_rfl) rfl rfl) ?_ | refine LW.q rfl (Qt.eqlNN (by kernel_rfl) rfl rfl) ?_
    refine LW.q rfl (Qt.move rfl) ?_
    refine LW.q rfl (Qt.neq rfl rfl) ?_
    refine LW.q rfl (Qt.neqB (by kernel_rfl) rfl rfl) ?_
    refine LW.q rfl (Qt.pick rfl rfl) ?_
    refine LW.done ?_
    first | refine T.condF rfl ?_ | refine T.condPF rfl ((by rcases hev with rfl | rfl | rfl <;> simp)) ?_ | refine T.condBF rfl ((by rcases hev with rfl | rfl | rfl <;> simp)) ?_
    refine T.skip ?_
    refine T.seq ?_
    refine T.seq ?_
    refine T.region ?_
    refine LW.q rfl (Qt.move rfl) ?_
    first | refine LW.q rfl (Qt.eqlNil (by kernel_rfl) rfl rfl) ?_ | refine LW.q rfl (Qt.eqlNN (by kernel_rfl) rfl rfl) ?_
    refine LW.done ?_
    first | refine T.condT rfl ?_ | refine T.condPT rfl (by omega) ?_ | refine T.condBT rfl (by omega) ?_
    refine T.seq ?_
    refine T.region ?_
    refine LW.q rfl (Qt.assign rfl) ?_
    refine LW.done ?_
    refine T.ret ?_
    exact ⟨.inl rfl, _, _, res [_] rfl ⟨rvT rfl, trivial⟩, ⟨rfl, rfl⟩, Sub.any⟩
  · skip
    obtain ⟨⟨recs, mark⟩, hr⟩ : ∃ x, openR b = .ok x := by cases h : openR b with | error e => exact (he ⟨e, h⟩).elim | ok x => exact ⟨x, rfl⟩
    have hl2 := openR_len hr
    have hu := openR_used hr
    have hlu := len_used recs
    refine T.skip ?_
    refine T.seq ?_
    refine T.region ?_
    refine LW.q rfl (Qt.move rfl) ?_
    refine LW.e rfl (Ef.call (Pg.open_ok hr (Pg.open B [] ba b.length bc b (hb.rd []) rfl hc (by omega))) Tryd.func15 rfl rfl rfl ?_)
    rintro _ _ ⟨gp, rfl, rfl⟩
    try simp only [List.cons_append, List.nil_append]
    refine LW.q rfl (Qt.move rfl) ?_
    refine LW.q rfl (Qt.extract rfl rfl) ?_
    refine LW.q rfl (Qt.extract rfl rfl) ?_
    refine LW.q rfl (Qt.assign rfl) ?_
    refine LW.q rfl (Qt.assign rfl) ?_
    refine LW.done ?_
    refine T.seq ?_
    refine T.region ?_
    refine LW.q rfl (Qt.move rfl) ?_
    refine LW.q rfl (Qt.str b (by kernel_rfl) (by kernel_rfl) rfl (hb.rd _).str) ?_
    refine LW.e rfl (Ef.call (Rc.open_ok hr (Rc.open B b (by omega))) Tryd.func19 rfl rfl rfl ?_)
    rintro _ _ ⟨q, c, rfl, rfl⟩
    try simp only [List.cons_append, List.nil_append]
    refine LW.own (fun w ho => ?_)
    have hq : 0 < recs.length → ∃ g, q = some ⟨g, 0, none⟩ := (ho.slice_at (p := q) (m := recs.length) (c := c)).2.1
    clear ho
    refine LW.q rfl (Qt.move rfl) ?_
    refine LW.q rfl (Qt.extract rfl rfl) ?_
    refine LW.q rfl (Qt.extract rfl rfl) ?_
    refine LW.e rfl (Ef.alloc [.slice none 0 0, .int .i64 0] (by unfold zeroB; kernel_rfl) ?_)
    intro g5
    refine LW.e0 rfl (Ef.store [_, _] (by kernel_rfl) rfl rfl rfl rfl (by simp) ?_)
    try simp only [splice, List.length_cons, List.length_nil, List.drop_succ_cons, List.cons_append, List.take_succ_cons, List.take_zero, List.drop_zero, List.nil_append, List.append_nil]
    refine LW.q rfl (Qt.assign rfl) ?_
    refine LW.done ?_
    refine T.seq ?_
    refine T.seq ?_
    refine T.region ?_
    refine LW.q rfl (Qt.move rfl) ?_
    refine LW.q rfl (Qt.move rfl) ?_
    refine LW.q rfl (Qt.neq rfl rfl) ?_
    refine LW.q rfl (Qt.move rfl) ?_
    first | refine LW.gF (t := 27) rfl rfl ?_ | refine LW.gF (t := 27) rfl (decide_eq_false (by omega)) ?_ | refine LW.gF (t := 27) rfl (by omega) ?_
    refine LW.q rfl (Qt.move rfl) ?_
    first | refine LW.q rfl (Qt.eqlNil (by kernel_rfl) rfl rfl) ?_ | refine LW.q rfl (Qt.eqlNN (by kernel_rfl) rfl rfl) ?_
    refine LW.q rfl (Qt.move rfl) ?_
    refine LW.q rfl (Qt.neq rfl rfl) ?_
    refine LW.q rfl (Qt.neqB (by kernel_rfl) rfl rfl) ?_
    refine LW.q rfl (Qt.pick rfl rfl) ?_
    refine LW.done ?_
    first | refine T.condF rfl ?_ | refine T.condPF rfl (by omega) ?_ | refine T.condBF rfl (by omega) ?_
    refine T.skip ?_
    refine T.seq ?_
    refine T.seq ?_
    refine T.region ?_
    refine LW.q rfl (Qt.move rfl) ?_
    first | refine LW.q rfl (Qt.eqlNil (by kernel_rfl) rfl rfl) ?_ | refine LW.q rfl (Qt.eqlNN (by kernel_rfl) rfl rfl) ?_
    refine LW.done ?_
    first | refine T.condF rfl ?_ | refine T.condPF rfl (by omega) ?_ | refine T.condBF rfl (by omega) ?_
    refine T.skip ?_
    refine T.seq ?_
    refine T.seq ?_
    refine T.region ?_
    refine LW.q rfl (Qt.fieldAddr0 (by kernel_rfl) rfl) ?_
    first | refine LW.q rfl (Qt.load (by kernel_rfl) rfl rfl) ?_ | refine LW.q rfl (Qt.load (by kernel_rfl) rfl (map_at _ _ _ (by omega))) ?_ | refine LW.q rfl (Qt.load (by kernel_rfl) rfl (flat_cell0 _ _ _ (by intros; rfl) _ (by omega) (by rfl))) ?_ | refine LW.q rfl (Qt.load (by kernel_rfl) rfl (flat_cell _ _ _ (by intros; rfl) _ _ (by omega) (by rfl))) ?_ | refine LW.q rfl (Qt.load (by kernel_rfl) rfl (bytes_at _ _ (by omega))) ?_
    refine LW.q rfl (Qt.len (e := 9) (sz := 1) (by kernel_rfl) rfl) ?_
    refine LW.q rfl (Qt.move rfl) ?_
    refine LW.done ?_
    refine T.block ?_
    refine T.loop (fun mz fz lz => ∃ (f0 : Fr) (i : Nat), (i ≤ recs.length) ∧ mz = recs.length - i ∧ fz = (upd (upd (upd (upd (upd (upd f0 0 (.slice ba b.length bc)) 3 (.pointer (some ⟨gp, 0, none⟩))) 5 (.pointer (some ⟨g5, 0, none⟩))) 37 (.slice q recs.length c)) 38 (.int .i64 recs.length)) 39 (.int .i64 i)) ∧ lz = pgA gp recs mark :: blk g5 [.slice q recs.length c, .int .i64 mark] 38 :: strR q recs.length c recs :: F) ?_ ?_
    · refine ⟨_, _, ⟨_, 0, Nat.zero_le _, rfl, (updS rfl (updS rfl (updS rfl (updS rfl (updS rfl (updS rfl rfl)))))), rfl⟩, Sub.any⟩
    · skip
      rintro mz fz lz ⟨f0, i, hi, hmz, rfl, rfl⟩
      subst mz
      try simp only [List.cons_append, List.nil_append]
      refine T.seq ?_
      refine T.region ?_
      refine LW.q rfl (Qt.lss rfl rfl) ?_
      refine LW.done ?_
      refine T.seq ?_
      refine T.condP rfl (fun hlt => ?_) (fun hlt => ?_)
      · skip
        obtain ⟨gq, rfl⟩ := hq (by omega)
        obtain ⟨s, hs⟩ : ∃ s, recs[i]? = some s := ⟨_, List.getElem?_eq_getElem (by omega)⟩
        refine T.skip ?_
        refine T.seq ?_
        refine T.block ?_
        refine T.seq ?_
        refine T.region ?_
        refine LW.q rfl (Qt.move rfl) ?_
        refine LW.q rfl (Qt.index _ (e := 9) (sz := 1) (by kernel_rfl) rfl rfl rfl (by omega)) ?_
        refine LW.q rfl (Qt.load (v := strV s) (by kernel_rfl) rfl (by simp [hs])) ?_
        refine LW.q rfl (Qt.assign rfl) ?_
        refine LW.q rfl (Qt.assign rfl) ?_
        refine LW.done ?_
        refine T.seq ?_
        refine T.region ?_
        refine LW.q rfl (Qt.move rfl) ?_
        refine LW.q rfl (Qt.move rfl) ?_
        refine LW.e rfl (Ef.call (Pg.getE B gp recs mark i i s.length s rfl hs rfl) Tryd.func17 rfl rfl rfl ?_)
        rintro _ _ ⟨p3, c3, rfl, rfl⟩
        try simp only [List.cons_append, List.nil_append]
        refine LW.q rfl (Qt.move rfl) ?_
        refine LW.q rfl (Qt.extract rfl rfl) ?_
        refine LW.q rfl (Qt.extract rfl rfl) ?_
        refine LW.q rfl (Qt.assign rfl) ?_
        refine LW.q rfl (Qt.assign rfl) ?_
        refine LW.done ?_
        refine T.seq ?_
        refine T.region ?_
        refine LW.q rfl (Qt.move rfl) ?_
        refine LW.q rfl (Qt.neq rfl rfl) ?_
        refine LW.q rfl (Qt.move rfl) ?_
        first | refine LW.gF (t := 52) rfl rfl ?_ | refine LW.gF (t := 52) rfl (decide_eq_false (by omega)) ?_ | refine LW.gF (t := 52) rfl (by omega) ?_
        refine LW.q rfl (Qt.move rfl) ?_
        refine LW.q rfl (Qt.str s (by kernel_rfl) (by kernel_rfl) rfl (fun _ ho => ho.reads_row rfl)) ?_
        refine LW.q rfl (Qt.move rfl) ?_
        refine LW.q rfl (Qt.neqS rfl rfl) ?_
        refine LW.q rfl (Qt.pick rfl rfl) ?_
        refine LW.done ?_
        first | refine T.condF rfl ?_ | refine T.condPF rfl ((by simp)) ?_ | refine T.condBF rfl ((by simp)) ?_
        refine T.skip ?_
        refine T.region ?_
        refine LW.q rfl (Qt.add rfl rfl (wr64 (by omega) (by omega))) ?_
        refine LW.q rfl (Qt.move rfl) ?_
        refine LW.done ?_
        refine ⟨_, ?_, _, ⟨_, i + 1, by omega, rfl, (updS rfl (updS rfl (updS rfl (updS rfl (updS rfl (updS rfl rfl)))))), rfl⟩, Sub.any⟩
        first | omega | (simp; omega)
      · skip
        refine T.exit ?_
        refine T.seq ?_
        refine T.drawAll 21 (by kernel_rfl) (Nat.le_of_ble_eq_true rfl) (by kernel_rfl) ?_
        refine RW.q 0 rfl rfl (by kernel_rfl) (Sub.refl _) (Qt.move rfl) ?_
        refine RW.q 2 rfl rfl (by kernel_rfl) (Sub.refl _) (Qt.fieldAddr0 (by kernel_rfl) rfl) ?_
        first | refine RW.q 3 rfl rfl (by kernel_rfl) (Sub.refl _) (Qt.load (by kernel_rfl) rfl rfl) ?_ | refine RW.q 3 rfl rfl (by kernel_rfl) (Sub.refl _) (Qt.load (by kernel_rfl) rfl (map_at _ _ _ (by omega))) ?_ | refine RW.q 3 rfl rfl (by kernel_rfl) (Sub.refl _) (Qt.load (by kernel_rfl) rfl (flat_cell0 _ _ _ (by intros; rfl) _ (by omega) (by rfl))) ?_ | refine RW.q 3 rfl rfl (by kernel_rfl) (Sub.refl _) (Qt.load (by kernel_rfl) rfl (flat_cell _ _ _ (by intros; rfl) _ _ (by omega) (by rfl))) ?_ | refine RW.q 3 rfl rfl (by kernel_rfl) (Sub.refl _) (Qt.load (by kernel_rfl) rfl (bytes_at _ _ (by omega))) ?_
        refine RW.q 4 rfl rfl (by kernel_rfl) (Sub.refl _) (Qt.len (e := 9) (sz := 1) (by kernel_rfl) rfl) ?_
        refine RW.one 1 (by kernel_rfl) ?_
        refine RO.e rfl rfl (Ef.call (Pg.count B gp recs mark) Tryd.func16 rfl rfl rfl ?_)
        rintro _ _ ⟨rfl, rfl⟩
        try simp only [List.cons_append, List.nil_append]
        refine ⟨Sub.any, ?_⟩
        refine RW.q 5 rfl rfl (by kernel_rfl) (Sub.refl _) (Qt.eql rfl rfl) ?_
        refine RW.q 6 rfl rfl (by kernel_rfl) (Sub.refl _) (Qt.move rfl) ?_
        first | refine RW.gT (t := 65) rfl rfl ?_ | refine RW.gT (t := 65) rfl (decide_eq_true (by omega)) ?_ | refine RW.gT (t := 65) rfl (by omega) ?_
        refine RW.q 7 rfl rfl (by kernel_rfl) (Sub.refl _) (Qt.move rfl) ?_
        refine RW.q 9 rfl rfl (by kernel_rfl) (Sub.refl _) (Qt.fieldAddr (off := 1) (by kernel_rfl) rfl) ?_
        first | refine RW.q 10 rfl rfl (by kernel_rfl) (Sub.refl _) (Qt.load (by kernel_rfl) rfl rfl) ?_ | refine RW.q 10 rfl rfl (by kernel_rfl) (Sub.refl _) (Qt.load (by kernel_rfl) rfl (map_at _ _ _ (by omega))) ?_ | refine RW.q 10 rfl rfl (by kernel_rfl) (Sub.refl _) (Qt.load (by kernel_rfl) rfl (flat_cell0 _ _ _ (by intros; rfl) _ (by omega) (by rfl))) ?_ | refine RW.q 10 rfl rfl (by kernel_rfl) (Sub.refl _) (Qt.load (by kernel_rfl) rfl (flat_cell _ _ _ (by intros; rfl) _ _ (by omega) (by rfl))) ?_ | refine RW.q 10 rfl rfl (by kernel_rfl) (Sub.refl _) (Qt.load (by kernel_rfl) rfl (bytes_at _ _ (by omega))) ?_
        refine RW.one 8 (by kernel_rfl) ?_
        refine RO.e rfl rfl (Ef.call (Pg.mark B gp recs mark) Tryd.func20 rfl rfl rfl ?_)
        rintro _ _ ⟨rfl, rfl⟩
        try simp only [List.cons_append, List.nil_append]
        refine ⟨Sub.any, ?_⟩
        refine RW.q 11 rfl rfl (by kernel_rfl) (Sub.refl _) (Qt.eql rfl rfl) ?_
        refine RW.q 12 rfl rfl (by kernel_rfl) (Sub.refl _) (Qt.pick rfl rfl) ?_
        refine RW.q 13 rfl rfl (by kernel_rfl) (Sub.refl _) (Qt.move rfl) ?_
        first | refine RW.gT (t := 72) rfl rfl ?_ | refine RW.gT (t := 72) rfl (decide_eq_true (by omega)) ?_ | refine RW.gT (t := 72) rfl (by omega) ?_
        refine RW.q 14 rfl rfl (by kernel_rfl) (Sub.refl _) (Qt.move rfl) ?_
        refine RW.q 17 rfl rfl (by kernel_rfl) (Sub.refl _) (Qt.move rfl) ?_
        refine RW.q 18 rfl rfl (by kernel_rfl) (Sub.refl _) (Qt.str b (by kernel_rfl) (by kernel_rfl) rfl (hb.rd _).str) ?_
        refine RW.one 15 (by kernel_rfl) ?_
        refine RO.e rfl rfl (Ef.call (Pg.bytes B gp recs mark) Tryd.func18 rfl rfl rfl ?_)
        rintro _ _ ⟨p6, c6, rfl, rfl⟩
        try simp only [List.cons_append, List.nil_append]
        rw [pgBytes_openR hr]
        refine ⟨Sub.any, ?_⟩
        refine RW.q 16 rfl rfl (by kernel_rfl) (Sub.refl _) (Qt.str b (by kernel_rfl) (by kernel_rfl) rfl (fun _ ho => ho.reads_row hl2)) ?_
        refine RW.q 19 rfl rfl (by kernel_rfl) (Sub.refl _) (Qt.eqlS rfl rfl) ?_
        refine RW.q 20 rfl rfl (by kernel_rfl) (Sub.refl _) (Qt.pick rfl rfl) ?_
        refine RW.done (by rfl) ?_
        simp only [List.drop_succ_cons, List.drop_zero, List.drop_nil]
        refine LW.q rfl (Qt.assign rfl) ?_
        refine LW.done ?_
        refine T.ret ?_
        exact ⟨.inl rfl, _, _, res [_] rfl ⟨rvT rfl, trivial⟩, ⟨by simp [outV], rfl⟩, Sub.any⟩
end Go.Proofs.YtjjhbpjbngdlnaaDoor
