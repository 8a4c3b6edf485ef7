/- The statement WalAgain. Conditions: that what is handed in can be read; sizes. -/
import Derived.Test.YtjjhbpjbngdlnaaDoorWlM
set_option linter.unusedSimpArgs false
set_option linter.unusedVariables false
namespace Go.Proofs.YtjjhbpjbngdlnaaDoor
open Go.RowKit

/-- The first bytes, as a sector's. -/
def sectOf (b : List UInt8) : List UInt8 := b.take 256 ++ List.replicate (256 - b.length) 0
theorem length_sectOf (b : List UInt8) : (sectOf b).length = 256 := by simp [sectOf]; omega
theorem splice_sect (b : List UInt8) : splice (bytesV (List.replicate 256 0)) 0 ((bytesV b).take (Nat.min b.length 256)) = bytesV (sectOf b) := by
  have e : (bytesV b).take (Nat.min b.length 256) = bytesV (b.take 256) := by
    unfold bytesV
    rw [← List.map_take, show Nat.min b.length 256 = Min.min 256 b.length from Nat.min_comm _ _, ← List.take_take, List.take_length]
  rw [e]
  unfold splice sectOf
  rw [Nat.zero_add, List.take_zero, List.nil_append, length_bytesV, bytesV_append]
  congr 1
  unfold bytesV
  rw [← List.map_drop, List.drop_replicate, List.length_take]
  congr 2
  omega
set_option maxHeartbeats 1000000 in
set_option maxRecDepth 100000 in
theorem Wl.sector (B : Base) (v : Value) (b : List UInt8) (hv : RoS B v (bytesV b)) (hb : b.length < 2 ^ 40) : Fn Tryd.prog B 35 #[v] [] (fun u l => ∃ g, u = .slice (some ⟨g, 0, none⟩) 256 256 ∧ l = [rB (.slice (some ⟨g, 0, none⟩) 256 256) 256 (sectOf b)]) := by
  obtain ⟨ba, bc, rfl⟩ := (hv.rd []).form (m := b.length) (by simp)
  refine Fn.enter1 9 Tryd.func35 rfl rfl (Nat.le_of_ble_eq_true rfl) (fun F => ?_)
  try simp only [List.cons_append, List.nil_append]
  refine T.seq ?_
  refine T.region ?_
  refine LW.q rfl (Qt.assign rfl) ?_
  refine LW.done ?_
  refine T.seq ?_
  refine T.region ?_
  refine LW.e rfl (Ef.make 256 (.int .u8 0) 1 Cd.elemB (by kernel_rfl) rfl rfl rfl rfl (by omega) (by unfold maxLen; omega) ?_)
  rintro g4
  try simp only [List.cons_append, List.nil_append]
  rw [made_bytes]
  refine LW.q rfl (Qt.assign rfl) ?_
  refine LW.done ?_
  refine T.seq ?_
  refine T.region ?_
  refine LW.q rfl (Qt.move rfl) ?_
  refine LW.q rfl (Qt.move rfl) ?_
  by_cases h0 : b = []
  · skip
    subst h0
    refine LW.e rfl (Ef.copy0 (e := 5) (by kernel_rfl) rfl rfl rfl ?_)
    try simp only [List.cons_append, List.nil_append]
    rw [show List.replicate 256 (0 : UInt8) = sectOf [] from rfl]
    refine LW.done ?_
    refine T.seq ?_
    refine T.region ?_
    refine LW.q rfl (Qt.move rfl) ?_
    refine LW.q rfl (Qt.assign rfl) ?_
    refine LW.done ?_
    refine T.ret ?_
    exact ⟨.inl rfl, _, _, res [_] rfl ⟨rvT rfl, trivial⟩, ⟨g4, rfl, rfl⟩, Sub.any⟩
  · skip
    have hpos : 0 < b.length := List.length_pos_iff.2 h0
    refine LW.e rfl (Ef.copy (e := 5) (C := bytesV (List.replicate 256 0)) (cs := (bytesV b).take (Nat.min b.length 256)) (src := bytesV b) (by kernel_rfl) rfl rfl (hv.rd _) (Nat.min b.length 256) rfl (by show 0 < Min.min _ _; omega) rfl (by simp) one_bytesV (by rw [length_bytesV, List.length_replicate]; show 0 + Min.min _ _ ≤ _; omega) ?_)
    try simp only [List.cons_append, List.nil_append]
    rw [splice_sect]
    refine LW.done ?_
    refine T.seq ?_
    refine T.region ?_
    refine LW.q rfl (Qt.move rfl) ?_
    refine LW.q rfl (Qt.assign rfl) ?_
    refine LW.done ?_
    refine T.ret ?_
    exact ⟨.inl rfl, _, _, res [_] rfl ⟨rvT rfl, trivial⟩, ⟨g4, rfl, rfl⟩, Sub.any⟩

/-- Append, whatever is added. -/
theorem addW_any {first count dur : Nat} {ds : List (List UInt8)} (d : List UInt8) (hok : ∀ x ∈ ds, OkD x) (hl : (logB 0 0 ds).length ≤ count * 256) : ∃ ds' r e, addW (mkW first count ds dur) d = (mkW first count ds' dur, r, e) ∧ (∀ x ∈ ds', OkD x) ∧ (logB 0 0 ds').length ≤ count * 256 ∧ (logB 0 0 ds).length ≤ (logB 0 0 ds').length ∧ (logB 0 0 ds').take (logB 0 0 ds).length = logB 0 0 ds ∧ ((e = 0 ∧ ds' = ds ++ [d]) ∨ (e ≠ 0 ∧ ds' = ds)) := by
  rcases addW_cases (mkW first count ds dur) d with (⟨_, e⟩ | ⟨_, _, e⟩ | ⟨_, _, _, e⟩) | ⟨h1, h2, _⟩
  · exact ⟨ds, _, _, e, hok, hl, Nat.le_refl _, List.take_length, .inr ⟨by omega, rfl⟩⟩
  · exact ⟨ds, _, _, e, hok, hl, Nat.le_refl _, List.take_length, .inr ⟨by omega, rfl⟩⟩
  · exact ⟨ds, _, _, e, hok, hl, Nat.le_refl _, List.take_length, .inr ⟨by omega, rfl⟩⟩
  · have h2' : (logB 0 0 ds).length + 8 + d.length ≤ count * 256 := h2
    refine ⟨ds ++ [d], _, _, addW_mk h1 h2', fun x hx => ?_, ?_, ?_, ?_, .inl ⟨rfl, rfl⟩⟩
    · rcases List.mem_append.1 hx with hx | hx
      · exact hok x hx
      · simp at hx; subst hx; exact h1
    · rw [logB_snoc, List.length_append, length_recB]; omega
    · rw [logB_snoc, List.length_append]; omega
    · rw [logB_snoc, List.take_left' rfl]
theorem wrec_at {R : List WRec} {i : Nat} {x : WRec} (h : R[i]? = some x) : (R.flatMap wrecC)[0 + i * 2]? = some (.int .i64 x.mark) ∧ (R.flatMap wrecC)[0 + i * 2 + 1]? = some (recV x.r) := by
  induction R generalizing i with
  | nil => simp at h
  | cons y R ih =>
    cases i with
    | zero => simp at h; subst h; simp [List.flatMap_cons]
    | succ i =>
      have := ih (i := i) (by simpa using h)
      rw [List.flatMap_cons]
      rw [show 0 + (i + 1) * 2 = (0 + i * 2) + 2 by omega]
      simpa [wrecC] using this
/-- Records that are told by the same text are the same. -/
theorem rec_same {R S : List WRec} {l : List (Nat × List UInt8)} (h1 : R.map (fun x : WRec => (x.mark, x.r.b)) = l) (h2 : S.map (fun x : WRec => (x.mark, x.r.b)) = l) {i : Nat} (hi : i < R.length) : ∃ x y, R[i]? = some x ∧ S[i]? = some y ∧ x.mark = y.mark ∧ x.r.b = y.r.b := by
  have hl : R.length = S.length := by rw [← List.length_map (f := fun x : WRec => (x.mark, x.r.b)), h1, ← h2, List.length_map]
  have e : (R.map (fun x : WRec => (x.mark, x.r.b)))[i]? = (S.map (fun x : WRec => (x.mark, x.r.b)))[i]? := by rw [h1, h2]
  rw [List.getElem?_map, List.getElem?_map, List.getElem?_eq_getElem hi, List.getElem?_eq_getElem (by omega)] at e
  simp at e
  exact ⟨_, _, List.getElem?_eq_getElem hi, List.getElem?_eq_getElem (by omega), e.1, e.2⟩

set_option maxHeartbeats 4000000 in
set_option maxRecDepth 100000 in
theorem Wl.again (B : Base) (v : Value) (ls : List (List UInt8)) (hv : RoLB B v ls) (h1 : ls.length ≤ 1048576) (h2 : ∀ x ∈ ls, x.length ≤ 1048576) (kind mark t0 t1 : Int) (vd vk : Value) (data : List UInt8) (keep : List Bool) (hd : RoS B vd (bytesV data)) (hk : RoS B vk (boolsV keep)) (hdl : data.length ≤ 1048576) :
    Fn Tryd.prog B 11 #[v, .agg #[.int .i64 kind, vd, .int .i64 mark, vk, .int .i64 t0, .int .i64 t1]] [] (fun v l => v = .bool true ∧ l = []) := by
  obtain ⟨a, c, rfl, hcap, hcell⟩ := hv
  refine Fn.enter2 178 Tryd.func11 rfl rfl (Nat.le_of_ble_eq_true rfl) (fun F => ?_)
  try simp only [List.cons_append, List.nil_append]
  refine T.seq ?_
  refine T.region ?_
  refine LW.e rfl (Ef.box [_, _, _, _, _, _] rfl rfl ?_)
  intro g3
  refine LW.q rfl (Qt.assign rfl) ?_
  refine LW.done ?_
  refine T.seq ?_
  refine T.seq ?_
  refine T.region ?_
  refine LW.e rfl (Ef.call (Wl.awake B) Tryd.func23 rfl rfl rfl ?_)
  rintro _ _ ⟨rfl, rfl⟩
  try simp only [List.cons_append, List.nil_append]
  first | refine LW.q rfl (Qt.notP rfl) ?_ | refine LW.q rfl (Qt.notB rfl) ?_
  refine LW.done ?_
  first | refine T.condF rfl ?_ | refine T.condPF rfl (by omega) ?_ | refine T.condBF rfl (by omega) ?_
  refine T.skip ?_
  refine T.seq ?_
  refine T.region ?_
  refine LW.e rfl (Ef.call (Dk.newF B 8 8 rfl (by omega) (by omega)) Tryd.func24 rfl rfl rfl ?_)
  rintro _ _ ⟨bd, rfl, rfl⟩
  try simp only [List.cons_append, List.nil_append]
  refine LW.q rfl (Qt.move rfl) ?_
  refine LW.q rfl (Qt.extract rfl rfl) ?_
  refine LW.q rfl (Qt.extract rfl rfl) ?_
  refine LW.q rfl (Qt.assign rfl) ?_
  refine LW.q rfl (Qt.assign rfl) ?_
  refine LW.done ?_
  refine T.seq ?_
  refine T.seq ?_
  refine T.region ?_
  refine LW.q rfl (Qt.move rfl) ?_
  first | refine LW.q rfl (Qt.eqlNil (by kernel_rfl) rfl rfl) ?_ | refine LW.q rfl (Qt.eqlNN (by kernel_rfl) rfl rfl) ?_
  refine LW.done ?_
  first | refine T.condF rfl ?_ | refine T.condPF rfl (by omega) ?_ | refine T.condBF rfl (by omega) ?_
  refine T.skip ?_
  refine T.seq ?_
  refine T.region ?_
  refine LW.q rfl (Qt.move rfl) ?_
  refine LW.e rfl (Ef.call (Wl.openText B bd ⟨List.replicate 8 zs, []⟩ 2 5 [] 2 5 rfl rfl (by omega) (by simp) (by simp) (Secs.new (by omega)) (by simp) (by simp [logB])) Tryd.func25 rfl rfl rfl ?_)
  rintro _ _ ⟨gl, q1, cq1, R1, D1, e1, e2, e3, e4, e5, e6, rfl, rfl⟩
  try simp only [List.cons_append, List.nil_append]
  refine LW.q rfl (Qt.move rfl) ?_
  refine LW.q rfl (Qt.extract rfl rfl) ?_
  refine LW.q rfl (Qt.extract rfl rfl) ?_
  refine LW.q rfl (Qt.extract rfl rfl) ?_
  refine LW.q rfl (Qt.assign rfl) ?_
  refine LW.q rfl (Qt.assign rfl) ?_
  refine LW.q rfl (Qt.assign rfl) ?_
  refine LW.done ?_
  refine T.seq ?_
  refine T.seq ?_
  refine T.region ?_
  refine LW.q rfl (Qt.move rfl) ?_
  first | refine LW.q rfl (Qt.eqlNil (by kernel_rfl) rfl rfl) ?_ | refine LW.q rfl (Qt.eqlNN (by kernel_rfl) rfl rfl) ?_
  refine LW.done ?_
  first | refine T.condF rfl ?_ | refine T.condPF rfl (by omega) ?_ | refine T.condBF rfl (by omega) ?_
  have hl1 : D1.secs.length = 8 := by rw [e3]; rfl
  refine T.skip ?_
  refine T.seq ?_
  refine T.seq ?_
  refine T.region ?_
  refine LW.q rfl (Qt.move rfl) ?_
  refine LW.q rfl (Qt.len (e := 22) (sz := 1) (by kernel_rfl) rfl) ?_
  refine LW.q rfl (Qt.move rfl) ?_
  refine LW.done ?_
  refine T.block ?_
  refine T.loop (fun mz fz lz => ∃ (f0 : Fr) (k : Nat) (ds : List (List UInt8)) (D : DD), (k ≤ ls.length ∧ (∀ d ∈ ds, OkD d) ∧ (logB 0 0 ds).length ≤ 5 * 256 ∧ D.Ok ∧ D.secs.length = 8 ∧ D.pend = [] ∧ Secs D 2 5 (logB 0 0 ds)) ∧ mz = ls.length - k ∧ fz = (upd (upd (upd (upd (upd (upd (upd f0 0 (.slice a ls.length c)) 3 (.pointer (some ⟨g3, 0, none⟩))) 5 (.pointer (some ⟨bd, 0, none⟩))) 7 (.pointer (some ⟨gl, 0, none⟩))) 41 (.slice a ls.length c)) 42 (.int .i64 ls.length)) 43 (.int .i64 k)) ∧ lz = wlA gl bd (mkW 2 5 ds (logB 0 0 ds).length) :: dskA bd D :: blk g3 [.int .i64 kind, vd, .int .i64 mark, vk, .int .i64 t0, .int .i64 t1] 76 :: F) ?_ ?_
  · refine ⟨_, _, ⟨_, 0, [], D1, ⟨Nat.zero_le _, by simp, by simp [logB], e2, hl1, e4, e5⟩, rfl, (updS rfl (updS rfl (updS rfl (updS rfl (updS rfl (updS rfl (updS rfl rfl))))))), rfl⟩, Sub.any⟩
  · skip
    rintro mz fz lz ⟨f0, k, ds, D, ⟨hk0, hok, hlen, ho, hl, hp, hs⟩, hmz, rfl, rfl⟩
    subst mz
    try simp only [List.cons_append, List.nil_append]
    refine T.seq ?_
    refine T.region ?_
    refine LW.q rfl (Qt.lss rfl rfl) ?_
    refine LW.done ?_
    refine T.seq ?_
    refine T.condP rfl (fun hlt => ?_) (fun hlt => ?_)
    · skip
      obtain ⟨kb, ko, C, rfl, hro, hC⟩ := hcell.resolve_left (by intro e; rw [e] at hlt; simp at hlt; omega)
      obtain ⟨da, dc, hrd, hdv⟩ := hC k (by omega)
      have hxl := h2 _ (List.getElem_mem (show k < ls.length by omega))
      obtain ⟨xk, hxk⟩ : ∃ xk, ls[k]'(by omega) = xk := ⟨_, rfl⟩
      rw [hxk] at hrd hdv hxl
      obtain ⟨ds', r', e', b1, b2, b3, b4, b5, _⟩ := addW_any (first := 2) (count := 5) (dur := (logB 0 0 ds).length) xk hok hlen
      refine T.skip ?_
      refine T.seq ?_
      refine T.block ?_
      refine T.seq ?_
      refine T.region ?_
      refine LW.q rfl (Qt.index _ (e := 22) (sz := 1) (by kernel_rfl) rfl rfl rfl (by omega)) ?_
      refine LW.q rfl (Qt.load (v := .slice da xk.length dc) (by kernel_rfl) rfl hrd.1) ?_
      refine LW.q rfl (Qt.assign rfl) ?_
      refine LW.done ?_
      refine T.seq ?_
      refine T.region ?_
      refine LW.q rfl (Qt.move rfl) ?_
      refine LW.q rfl (Qt.move rfl) ?_
      refine LW.e rfl (Ef.one [_] (e := 22) (sz := 1) (by kernel_rfl) ⟨.slice none 0 0, by kernel_rfl, rfl⟩ rfl rfl rfl (by omega) (by omega) ?_)
      intro g49
      refine LW.e rfl (Ef.call (Wl.add B [blk g49 [.slice da xk.length dc] 22] gl bd (mkW 2 5 ds (logB 0 0 ds).length) (some ⟨g49, 0, none⟩) 1 [xk] 1 rfl (PartsV.one (hdv.rd _)) (by simp) (by simp) xk (by simp) (by omega) (by simp [mkW]) hlen) Tryd.func26 rfl rfl rfl ?_)
      rintro _ _ ⟨rfl, rfl⟩
      try simp only [List.cons_append, List.nil_append]
      simp only [b1]
      refine LW.done ?_
      refine T.region ?_
      refine LW.q rfl (Qt.move rfl) ?_
      obtain ⟨f1, f2, f3⟩ := flushE_ok (W := mkW 2 5 ds' (logB 0 0 ds).length) ho (by simp [mkW]; omega) b3 b4 hp
      have f4 := flushE_secs (W := mkW 2 5 ds' (logB 0 0 ds).length) ho (by simp [mkW]; omega) (by show Secs D 2 5 ((logB 0 0 ds').take (logB 0 0 ds).length); rw [b5]; exact hs) b4 b3
      obtain ⟨D2, hD2⟩ : ∃ D2, flushE (mkW 2 5 ds' (logB 0 0 ds).length) D = D2 := ⟨_, rfl⟩
      rw [hD2] at f1 f2 f3 f4
      refine LW.e rfl (Ef.call (Wl.flush B gl bd (mkW 2 5 ds' (logB 0 0 ds).length) D (by simp [mkW]; omega) (by omega) b3 b4 (by rw [hp]; simp)) Tryd.func27 rfl rfl rfl ?_)
      rintro _ _ ⟨rfl, rfl⟩
      try simp only [List.cons_append, List.nil_append]
      rw [hD2, flushed_mk]
      refine LW.done ?_
      refine T.region ?_
      refine LW.q rfl (Qt.add rfl rfl (wr64 (by omega) (by omega))) ?_
      refine LW.q rfl (Qt.move rfl) ?_
      refine LW.done ?_
      refine ⟨_, ?_, _, ⟨_, k + 1, ds', D2, ⟨by omega, b2, b3, f1, f2.trans hl, f3, f4⟩, rfl, (updS rfl (updS rfl (updS rfl (updS rfl (updS rfl (updS rfl (updS rfl rfl))))))), rfl⟩, Sub.any⟩
      first | omega | (simp; omega)
    · skip
      clear hlt hk0
      refine T.exit ?_
      refine T.seq ?_
      refine T.region ?_
      refine LW.q rfl (Qt.move rfl) ?_
      refine LW.q rfl (Qt.fieldAddr (off := 1) (by kernel_rfl) rfl) ?_
      first | refine LW.q rfl (Qt.load (by kernel_rfl) rfl rfl) ?_ | refine LW.q rfl (Qt.load (by kernel_rfl) rfl (map_at _ _ _ (by omega))) ?_ | refine LW.q rfl (Qt.load (by kernel_rfl) rfl (flat_cell0 _ _ _ (by intros; rfl) _ (by omega) (by rfl))) ?_ | refine LW.q rfl (Qt.load (by kernel_rfl) rfl (flat_cell _ _ _ (by intros; rfl) _ _ (by omega) (by rfl))) ?_ | refine LW.q rfl (Qt.load (by kernel_rfl) rfl (bytes_at _ _ (by omega))) ?_
      refine LW.e rfl (Ef.call (Wl.sector B vd data hd (by omega)) Tryd.func35 rfl rfl rfl ?_)
      rintro _ _ ⟨gs, rfl, rfl⟩
      try simp only [List.cons_append, List.nil_append]
      refine LW.e rfl (Ef.call (Dk.writeF B bd D (rB (.slice (some ⟨gs, 0, none⟩) 256 256) 256 (sectOf data)) gs 0 256 3 3 rfl (sectOf data) (row_bytes (p := none)) (by omega) (length_sectOf _) (by rw [hp]; simp)) Tryd.func34 rfl rfl rfl ?_)
      rintro _ _ ⟨rfl, rfl⟩
      try simp only [List.cons_append, List.nil_append]
      refine LW.done ?_
      refine T.seq ?_
      refine T.region ?_
      refine LW.q rfl (Qt.move rfl) ?_
      refine LW.q rfl (Qt.fieldAddr (off := 3) (by kernel_rfl) rfl) ?_
      first | refine LW.q rfl (Qt.load (by kernel_rfl) rfl rfl) ?_ | refine LW.q rfl (Qt.load (by kernel_rfl) rfl (map_at _ _ _ (by omega))) ?_ | refine LW.q rfl (Qt.load (by kernel_rfl) rfl (flat_cell0 _ _ _ (by intros; rfl) _ (by omega) (by rfl))) ?_ | refine LW.q rfl (Qt.load (by kernel_rfl) rfl (flat_cell _ _ _ (by intros; rfl) _ _ (by omega) (by rfl))) ?_ | refine LW.q rfl (Qt.load (by kernel_rfl) rfl (bytes_at _ _ (by omega))) ?_
      refine LW.q rfl (Qt.fieldAddr (off := 4) (by kernel_rfl) rfl) ?_
      refine LW.q rfl (Qt.indexA 0 (len := 2) (e := 3) (sz := 1) (by kernel_rfl) rfl rfl rfl (by omega)) ?_
      first | refine LW.q rfl (Qt.load (by kernel_rfl) rfl rfl) ?_ | refine LW.q rfl (Qt.load (by kernel_rfl) rfl (map_at _ _ _ (by omega))) ?_ | refine LW.q rfl (Qt.load (by kernel_rfl) rfl (flat_cell0 _ _ _ (by intros; rfl) _ (by omega) (by rfl))) ?_ | refine LW.q rfl (Qt.load (by kernel_rfl) rfl (flat_cell _ _ _ (by intros; rfl) _ _ (by omega) (by rfl))) ?_ | refine LW.q rfl (Qt.load (by kernel_rfl) rfl (bytes_at _ _ (by omega))) ?_
      refine LW.q rfl (Qt.fieldAddr (off := 4) (by kernel_rfl) rfl) ?_
      refine LW.q rfl (Qt.indexA 1 (len := 2) (e := 3) (sz := 1) (by kernel_rfl) rfl rfl rfl (by omega)) ?_
      first | refine LW.q rfl (Qt.load (by kernel_rfl) rfl rfl) ?_ | refine LW.q rfl (Qt.load (by kernel_rfl) rfl (map_at _ _ _ (by omega))) ?_ | refine LW.q rfl (Qt.load (by kernel_rfl) rfl (flat_cell0 _ _ _ (by intros; rfl) _ (by omega) (by rfl))) ?_ | refine LW.q rfl (Qt.load (by kernel_rfl) rfl (flat_cell _ _ _ (by intros; rfl) _ _ (by omega) (by rfl))) ?_ | refine LW.q rfl (Qt.load (by kernel_rfl) rfl (bytes_at _ _ (by omega))) ?_
      have ow := ho.wr2 3 (sectOf data) (by omega) (length_sectOf _)
      have oc := ow.cr keep t0 t1
      have ocl := (DD.crash_len ow keep t0 t1).trans hl
      have ocp : ((D.write 3 (sectOf data)).crash keep t0 t1).pend = [] := rfl
      refine LW.e rfl (Ef.call (Dk.crashF B bd (D.write 3 (sectOf data)) vk keep t0 t1 hk (by simp [DD.write, hp])) Tryd.func37 rfl rfl rfl ?_)
      rintro _ _ ⟨rfl, rfl⟩
      try simp only [List.cons_append, List.nil_append]
      obtain ⟨D5, hD5⟩ : ∃ D5, (D.write 3 (sectOf data)).crash keep t0 t1 = D5 := ⟨_, rfl⟩
      rw [hD5] at oc ocl ocp
      rw [hD5]
      refine LW.done ?_
      refine T.seq ?_
      refine T.region ?_
      refine LW.q rfl (Qt.move rfl) ?_
      refine LW.e rfl (Ef.call (Wl.openAny B bd D5 2 5 2 5 rfl rfl (by omega) (by omega) (by rw [ocp]; simp)) Tryd.func25 rfl rfl rfl ?_)
      rintro _ _ ⟨ga, q3, cq3, R3, es, D6, w1, w2, w3, w4, w5, w6, w7, w8, w9, rfl, rfl⟩
      try simp only [List.cons_append, List.nil_append]
      have hl6 : D6.secs.length = 8 := w4.trans ocl
      have hR3 : R3.length = es.length := by rw [← length_logR 0 es, ← w2, List.length_map]
      refine LW.own (fun w ho => ?_)
      have hq3 : 0 < es.length → ∃ g, q3 = some ⟨g, 0, none⟩ := (ho.slice_at (p := q3) (m := es.length) (c := cq3)).2.1
      have hro3 : RecOk (R3.map WRec.r) := ho.tl.recOk
      clear ho w9
      refine LW.q rfl (Qt.move rfl) ?_
      refine LW.q rfl (Qt.extract rfl rfl) ?_
      refine LW.q rfl (Qt.extract rfl rfl) ?_
      refine LW.q rfl (Qt.extract rfl rfl) ?_
      refine LW.q rfl (Qt.assign rfl) ?_
      refine LW.q rfl (Qt.assign rfl) ?_
      refine LW.q rfl (Qt.assign rfl) ?_
      refine LW.done ?_
      refine T.seq ?_
      refine T.region ?_
      refine LW.q rfl (Qt.move rfl) ?_
      refine LW.e rfl (Ef.call (Dk.forkF B bd D6 (by rw [w5]; simp)) Tryd.func45 rfl rfl rfl ?_)
      rintro _ _ ⟨bf, rfl, rfl⟩
      try simp only [List.cons_append, List.nil_append]
      refine LW.q rfl (Qt.assign rfl) ?_
      refine LW.done ?_
      refine T.seq ?_
      refine T.region ?_
      refine LW.q rfl (Qt.move rfl) ?_
      refine LW.e rfl (Ef.call (Wl.openText B bd D6 2 5 es 2 5 rfl rfl (by omega) (by omega) (by rw [w5]; simp) w6 w1 w7) Tryd.func25 rfl rfl rfl ?_)
      rintro _ _ ⟨gb, q4, cq4, R4, D7, v1, v2, v3, v4, v5, v6, rfl, rfl⟩
      try simp only [List.cons_append, List.nil_append]
      have hl7 : D7.secs.length = 8 := v3.trans hl6
      have hR4 : R4.length = es.length := by rw [← length_logR 0 es, ← v1, List.length_map]
      refine LW.own (fun w ho => ?_)
      have hq4 : 0 < es.length → ∃ g, q4 = some ⟨g, 0, none⟩ := (ho.slice_at (p := q4) (m := es.length) (c := cq4)).2.1
      have hro4 : RecOk (R4.map WRec.r) := ho.tl.recOk
      clear ho
      refine LW.q rfl (Qt.move rfl) ?_
      refine LW.q rfl (Qt.extract rfl rfl) ?_
      refine LW.q rfl (Qt.extract rfl rfl) ?_
      refine LW.q rfl (Qt.extract rfl rfl) ?_
      refine LW.q rfl (Qt.assign rfl) ?_
      refine LW.q rfl (Qt.assign rfl) ?_
      refine LW.q rfl (Qt.assign rfl) ?_
      refine LW.done ?_
      refine T.seq ?_
      refine T.seq ?_
      refine T.region ?_
      refine LW.q rfl (Qt.move rfl) ?_
      first | refine LW.q rfl (Qt.eqlNil (by kernel_rfl) rfl rfl) ?_ | refine LW.q rfl (Qt.eqlNN (by kernel_rfl) rfl rfl) ?_
      refine LW.q rfl (Qt.move rfl) ?_
      have hel : es.length ≤ 1280 := by have := length_logB_le 0 0 es; omega
      first | refine LW.gF (t := 85) rfl rfl ?_ | refine LW.gF (t := 85) rfl (decide_eq_false (by omega)) ?_ | refine LW.gF (t := 85) rfl (by omega) ?_
      refine LW.q rfl (Qt.move rfl) ?_
      first | refine LW.q rfl (Qt.eqlNil (by kernel_rfl) rfl rfl) ?_ | refine LW.q rfl (Qt.eqlNN (by kernel_rfl) rfl rfl) ?_
      refine LW.q rfl (Qt.pick rfl rfl) ?_
      refine LW.q rfl (Qt.move rfl) ?_
      first | refine LW.gF (t := 89) rfl rfl ?_ | refine LW.gF (t := 89) rfl (decide_eq_false (by omega)) ?_ | refine LW.gF (t := 89) rfl (by omega) ?_
      refine LW.q rfl (Qt.move rfl) ?_
      first | refine LW.q rfl (Qt.eqlNil (by kernel_rfl) rfl rfl) ?_ | refine LW.q rfl (Qt.eqlNN (by kernel_rfl) rfl rfl) ?_
      refine LW.q rfl (Qt.pick rfl rfl) ?_
      refine LW.q rfl (Qt.move rfl) ?_
      first | refine LW.gF (t := 93) rfl rfl ?_ | refine LW.gF (t := 93) rfl (decide_eq_false (by omega)) ?_ | refine LW.gF (t := 93) rfl (by omega) ?_
      refine LW.q rfl (Qt.move rfl) ?_
      refine LW.q rfl (Qt.neq rfl rfl) ?_
      refine LW.q rfl (Qt.pick rfl rfl) ?_
      refine LW.q rfl (Qt.move rfl) ?_
      first | refine LW.gF (t := 97) rfl rfl ?_ | refine LW.gF (t := 97) rfl (decide_eq_false (by omega)) ?_ | refine LW.gF (t := 97) rfl (by omega) ?_
      refine LW.q rfl (Qt.move rfl) ?_
      refine LW.q rfl (Qt.neq rfl rfl) ?_
      refine LW.q rfl (Qt.pick rfl rfl) ?_
      refine LW.q rfl (Qt.move rfl) ?_
      first | refine LW.gF (t := 101) rfl rfl ?_ | refine LW.gF (t := 101) rfl (decide_eq_false (by omega)) ?_ | refine LW.gF (t := 101) rfl (by omega) ?_
      refine LW.q rfl (Qt.move rfl) ?_
      refine LW.q rfl (Qt.len (e := 59) (sz := 2) (by kernel_rfl) rfl) ?_
      refine LW.q rfl (Qt.move rfl) ?_
      refine LW.q rfl (Qt.len (e := 59) (sz := 2) (by kernel_rfl) rfl) ?_
      refine LW.q rfl (Qt.neq rfl rfl) ?_
      refine LW.q rfl (Qt.pick rfl rfl) ?_
      refine LW.q rfl (Qt.move rfl) ?_
      first | refine LW.gF (t := 108) rfl rfl ?_ | refine LW.gF (t := 108) rfl (decide_eq_false (by omega)) ?_ | refine LW.gF (t := 108) rfl (by omega) ?_
      refine LW.q rfl (Qt.move rfl) ?_
      refine LW.e rfl (Ef.call (Wl.endOf B ga bd (mkW 2 5 es (logB 0 0 es).length) (by simp only [mkW]; omega)) Tryd.func39 rfl rfl rfl ?_)
      rintro _ _ ⟨rfl, rfl⟩
      try simp only [List.cons_append, List.nil_append]
      refine LW.q rfl (Qt.move rfl) ?_
      refine LW.e rfl (Ef.call (Wl.endOf B gb bd (mkW 2 5 es (logB 0 0 es).length) (by simp only [mkW]; omega)) Tryd.func39 rfl rfl rfl ?_)
      rintro _ _ ⟨rfl, rfl⟩
      try simp only [List.cons_append, List.nil_append]
      refine LW.q rfl (Qt.neq rfl rfl) ?_
      refine LW.q rfl (Qt.pick rfl rfl) ?_
      refine LW.q rfl (Qt.move rfl) ?_
      first | refine LW.gF (t := 115) rfl rfl ?_ | refine LW.gF (t := 115) rfl (decide_eq_false (by omega)) ?_ | refine LW.gF (t := 115) rfl (by omega) ?_
      refine LW.q rfl (Qt.move rfl) ?_
      refine LW.e rfl (Ef.call (Wl.durable B ga bd (mkW 2 5 es (logB 0 0 es).length) (by simp only [mkW]; omega)) Tryd.func41 rfl rfl rfl ?_)
      rintro _ _ ⟨rfl, rfl⟩
      try simp only [List.cons_append, List.nil_append]
      refine LW.q rfl (Qt.move rfl) ?_
      refine LW.e rfl (Ef.call (Wl.endOf B ga bd (mkW 2 5 es (logB 0 0 es).length) (by simp only [mkW]; omega)) Tryd.func39 rfl rfl rfl ?_)
      rintro _ _ ⟨rfl, rfl⟩
      try simp only [List.cons_append, List.nil_append]
      refine LW.q rfl (Qt.neq rfl rfl) ?_
      refine LW.q rfl (Qt.pick rfl rfl) ?_
      refine LW.done ?_
      first | refine T.condF rfl ?_ | refine T.condPF rfl ((by simp [mkW])) ?_ | refine T.condBF rfl ((by simp [mkW])) ?_
      refine T.skip ?_
      refine T.seq ?_
      refine T.seq ?_
      refine T.region ?_
      refine LW.q rfl (Qt.move rfl) ?_
      refine LW.q rfl (Qt.len (e := 59) (sz := 2) (by kernel_rfl) rfl) ?_
      refine LW.q rfl (Qt.move rfl) ?_
      refine LW.done ?_
      refine T.block ?_
      refine T.loop (fun mz fz lz => ∃ (f0 : Fr) (i : Nat), (i ≤ es.length) ∧ mz = es.length - i ∧ fz = (upd (upd (upd (upd (upd (upd f0 5 (.pointer (some ⟨bd, 0, none⟩))) 13 (.slice q3 es.length cq3)) 15 (.pointer (some ⟨bf, 0, none⟩))) 17 (.slice q4 es.length cq4)) 123 (.int .i64 es.length)) 124 (.int .i64 i)) ∧ lz = wrecR q3 es.length cq3 R3 :: recsA (R3.map WRec.r) :: wrecR q4 es.length cq4 R4 :: recsA (R4.map WRec.r) :: dskA bd D7 :: dskA bf D6 :: F) ?_ ?_
      · refine ⟨_, _, ⟨_, 0, Nat.zero_le _, rfl, (updS rfl (updS rfl (updS rfl (updS rfl (updS rfl (updS rfl rfl)))))), rfl⟩, Sub.any⟩
      · skip
        rintro mz fz lz ⟨f0, i, hi, hmz, rfl, rfl⟩
        subst mz
        try simp only [List.cons_append, List.nil_append]
        refine T.seq ?_
        refine T.region ?_
        refine LW.q rfl (Qt.lss rfl rfl) ?_
        refine LW.done ?_
        refine T.seq ?_
        refine T.condP rfl (fun hlt => ?_) (fun hlt => ?_)
        · skip
          obtain ⟨g3, rfl⟩ := hq3 (by omega)
          obtain ⟨g4, rfl⟩ := hq4 (by omega)
          obtain ⟨x, y, hx, hy, hxy, hxb⟩ := rec_same w2 v1 (i := i) (by omega)
          have rx : RdV B [recsA (R3.map WRec.r)] (recV x.r) (bytesV x.r.b) := by have := RdV.rec (B := B) hro3 (j := i) (by simp; omega); simpa [(List.getElem?_eq_some_iff.1 hx).2] using this
          have ry : RdV B [recsA (R4.map WRec.r)] (recV y.r) (bytesV y.r.b) := by have := RdV.rec (B := B) hro4 (j := i) (by simp; omega); simpa [(List.getElem?_eq_some_iff.1 hy).2] using this
          refine T.skip ?_
          refine T.seq ?_
          refine T.block ?_
          refine T.seq ?_
          refine T.region ?_
          refine LW.q rfl (Qt.move rfl) ?_
          refine LW.q rfl (Qt.assign rfl) ?_
          refine LW.done ?_
          refine T.seq ?_
          refine T.drawAll 26 (by kernel_rfl) (Nat.le_of_ble_eq_true rfl) (by kernel_rfl) ?_
          refine RW.q 0 rfl rfl (by kernel_rfl) (Sub.refl _) (Qt.move rfl) ?_
          refine RW.q 1 rfl rfl (by kernel_rfl) (Sub.refl _) (Qt.move rfl) ?_
          refine RW.q 2 rfl rfl (by kernel_rfl) (Sub.refl _) (Qt.index _ (e := 59) (sz := 2) (by kernel_rfl) rfl rfl rfl (by omega)) ?_
          refine RW.q 3 rfl rfl (by kernel_rfl) (Sub.refl _) (Qt.fieldAddr0 (by kernel_rfl) rfl) ?_
          refine RW.q 4 rfl rfl (by kernel_rfl) (Sub.refl _) (Qt.load (v := .int .i64 x.mark) (by kernel_rfl) rfl (by have := (wrec_at hx).1; simpa using this)) ?_
          refine RW.q 5 rfl rfl (by kernel_rfl) (Sub.refl _) (Qt.move rfl) ?_
          refine RW.q 6 rfl rfl (by kernel_rfl) (Sub.refl _) (Qt.move rfl) ?_
          refine RW.q 7 rfl rfl (by kernel_rfl) (Sub.refl _) (Qt.index _ (e := 59) (sz := 2) (by kernel_rfl) rfl rfl rfl (by omega)) ?_
          refine RW.q 8 rfl rfl (by kernel_rfl) (Sub.refl _) (Qt.fieldAddr0 (by kernel_rfl) rfl) ?_
          refine RW.q 9 rfl rfl (by kernel_rfl) (Sub.refl _) (Qt.load (v := .int .i64 y.mark) (by kernel_rfl) rfl (by have := (wrec_at hy).1; simpa using this)) ?_
          refine RW.q 10 rfl rfl (by kernel_rfl) (Sub.refl _) (Qt.neq rfl rfl) ?_
          refine RW.q 11 rfl rfl (by kernel_rfl) (Sub.refl _) (Qt.move rfl) ?_
          first | refine RW.gF (t := 138) rfl rfl ?_ | refine RW.gF (t := 138) rfl (decide_eq_false ((by rw [hxy]; simp))) ?_ | refine RW.gF (t := 138) rfl ((by rw [hxy]; simp)) ?_
          refine RW.q 12 rfl rfl (by kernel_rfl) (Sub.refl _) (Qt.move rfl) ?_
          refine RW.q 13 rfl rfl (by kernel_rfl) (Sub.refl _) (Qt.move rfl) ?_
          refine RW.q 14 rfl rfl (by kernel_rfl) (Sub.refl _) (Qt.index _ (e := 59) (sz := 2) (by kernel_rfl) rfl rfl rfl (by omega)) ?_
          refine RW.q 15 rfl rfl (by kernel_rfl) (Sub.refl _) (Qt.fieldAddr (off := 1) (by kernel_rfl) rfl) ?_
          refine RW.q 16 rfl rfl (by kernel_rfl) (Sub.refl _) (Qt.load (v := .slice x.r.p x.r.b.length x.r.c) (by kernel_rfl) rfl (by have := (wrec_at hx).2; simpa [recV] using this)) ?_
          refine RW.q 17 rfl rfl (by kernel_rfl) (Sub.refl _) (Qt.str x.r.b (by kernel_rfl) (by kernel_rfl) rfl (fun w ho => rx.reads w (ho.map Sub.any))) ?_
          refine RW.q 18 rfl rfl (by kernel_rfl) (Sub.refl _) (Qt.move rfl) ?_
          refine RW.q 19 rfl rfl (by kernel_rfl) (Sub.refl _) (Qt.move rfl) ?_
          refine RW.q 20 rfl rfl (by kernel_rfl) (Sub.refl _) (Qt.index _ (e := 59) (sz := 2) (by kernel_rfl) rfl rfl rfl (by omega)) ?_
          refine RW.q 21 rfl rfl (by kernel_rfl) (Sub.refl _) (Qt.fieldAddr (off := 1) (by kernel_rfl) rfl) ?_
          refine RW.q 22 rfl rfl (by kernel_rfl) (Sub.refl _) (Qt.load (v := .slice y.r.p y.r.b.length y.r.c) (by kernel_rfl) rfl (by have := (wrec_at hy).2; simpa [recV] using this)) ?_
          refine RW.q 23 rfl rfl (by kernel_rfl) (Sub.refl _) (Qt.str y.r.b (by kernel_rfl) (by kernel_rfl) rfl (fun w ho => ry.reads w (ho.map Sub.any))) ?_
          refine RW.q 24 rfl rfl (by kernel_rfl) (Sub.refl _) (Qt.neqS rfl rfl) ?_
          refine RW.q 25 rfl rfl (by kernel_rfl) (Sub.refl _) (Qt.pick rfl rfl) ?_
          refine RW.done (by rfl) ?_
          simp only [List.drop_succ_cons, List.drop_zero, List.drop_nil]
          refine LW.done ?_
          first | refine T.condF rfl ?_ | refine T.condPF rfl ((by rw [hxb]; simp)) ?_ | refine T.condBF rfl ((by rw [hxb]; simp)) ?_
          refine T.skip ?_
          refine T.region ?_
          refine LW.q rfl (Qt.add rfl rfl (wr64 (by omega) (by omega))) ?_
          refine LW.q rfl (Qt.move rfl) ?_
          refine LW.done ?_
          refine ⟨_, ?_, _, ⟨_, i + 1, by omega, rfl, (updS rfl (updS rfl (updS rfl (updS rfl (updS rfl (updS rfl rfl)))))), rfl⟩, Sub.any⟩
          first | omega | (simp; omega)
        · skip
          refine T.exit ?_
          refine T.seq ?_
          refine T.seq ?_
          refine T.region ?_
          refine LW.q rfl (Qt.assign rfl) ?_
          refine LW.done ?_
          refine T.block ?_
          refine T.loop (fun mz fz lz => ∃ (f0 : Fr) (n : Nat), (n ≤ 8) ∧ mz = 8 - n ∧ fz = (upd (upd (upd f0 5 (.pointer (some ⟨bd, 0, none⟩))) 15 (.pointer (some ⟨bf, 0, none⟩))) 20 (.int .i64 n)) ∧ lz = dskA bd D7 :: dskA bf D6 :: F) ?_ ?_
          · refine ⟨_, _, ⟨_, 0, Nat.zero_le _, rfl, (updS rfl (updS rfl (updS rfl rfl))), rfl⟩, Sub.any⟩
          · skip
            rintro mz fz lz ⟨f0, n, hn, hmz, rfl, rfl⟩
            subst mz
            try simp only [List.cons_append, List.nil_append]
            refine T.seq ?_
            refine T.seq ?_
            refine T.region ?_
            refine LW.q rfl (Qt.move rfl) ?_
            refine LW.q rfl (Qt.lss rfl rfl) ?_
            refine LW.done ?_
            refine T.condP rfl (fun hlt2 => ?_) (fun hlt2 => ?_)
            · skip
              have hrd : D7.read n = D6.read n := by by_cases h : n < 2 ∨ 7 ≤ n; exact v6 n (by omega) (by omega); have a1 := v5 (n - 2) (by omega); have a2 := w6 (n - 2) (by omega); rw [show 2 + (n - 2) = n by omega] at a1 a2; rw [a1, a2]
              have hrl : (D6.read n).length = 256 := w3.rd n (by omega)
              refine T.skip ?_
              refine T.seq ?_
              refine T.block ?_
              refine T.seq ?_
              refine T.region ?_
              refine LW.q rfl (Qt.move rfl) ?_
              refine LW.q rfl (Qt.move rfl) ?_
              refine LW.e rfl (Ef.call (Dk.readF B bd D7 n n rfl (by omega) (by rw [v4]; simp)) Tryd.func43 rfl rfl rfl ?_)
              rintro _ _ ⟨g5, c5, rfl, rfl⟩
              try simp only [List.cons_append, List.nil_append]
              rw [hrd]
              refine LW.q rfl (Qt.move rfl) ?_
              refine LW.q rfl (Qt.extract rfl rfl) ?_
              refine LW.q rfl (Qt.extract rfl rfl) ?_
              refine LW.q rfl (Qt.assign rfl) ?_
              refine LW.q rfl (Qt.assign rfl) ?_
              refine LW.done ?_
              refine T.seq ?_
              refine T.region ?_
              refine LW.q rfl (Qt.move rfl) ?_
              refine LW.q rfl (Qt.move rfl) ?_
              refine LW.e rfl (Ef.call (Dk.readF B bf D6 n n rfl (by omega) (by rw [w5]; simp)) Tryd.func43 rfl rfl rfl ?_)
              rintro _ _ ⟨g6, c6, rfl, rfl⟩
              try simp only [List.cons_append, List.nil_append]
              refine LW.q rfl (Qt.move rfl) ?_
              refine LW.q rfl (Qt.extract rfl rfl) ?_
              refine LW.q rfl (Qt.extract rfl rfl) ?_
              refine LW.q rfl (Qt.assign rfl) ?_
              refine LW.q rfl (Qt.assign rfl) ?_
              refine LW.done ?_
              refine T.seq ?_
              refine T.region ?_
              refine LW.q rfl (Qt.move rfl) ?_
              refine LW.q rfl (Qt.str (D6.read n) (by kernel_rfl) (by kernel_rfl) rfl (fun w ho => (RdV.rB (p := some ⟨g5, 0, none⟩) (c := c5) hrl (fun _ => ⟨_, rfl⟩)).reads w (ho.map Sub.any))) ?_
              refine LW.q rfl (Qt.move rfl) ?_
              refine LW.q rfl (Qt.str (D6.read n) (by kernel_rfl) (by kernel_rfl) rfl (fun w ho => (RdV.rB (p := some ⟨g6, 0, none⟩) (c := c6) hrl (fun _ => ⟨_, rfl⟩)).reads w (ho.map Sub.any))) ?_
              refine LW.q rfl (Qt.neqS rfl rfl) ?_
              refine LW.done ?_
              first | refine T.condF rfl ?_ | refine T.condPF rfl ((by simp)) ?_ | refine T.condBF rfl ((by simp)) ?_
              refine T.skip ?_
              refine T.region ?_
              refine LW.q rfl (Qt.move rfl) ?_
              refine LW.q rfl (Qt.add rfl rfl (wr64 (by omega) (by omega))) ?_
              refine LW.q rfl (Qt.assign rfl) ?_
              refine LW.done ?_
              refine ⟨_, ?_, _, ⟨_, n + 1, by omega, rfl, (updS rfl (updS rfl (updS rfl rfl))), rfl⟩, Sub.any⟩
              first | omega | (simp; omega)
            · skip
              refine T.exit ?_
              refine T.seq ?_
              refine T.region ?_
              refine LW.q rfl (Qt.move rfl) ?_
              refine LW.e rfl (Ef.call (Dk.pendingF B bd D7) Tryd.func44 rfl rfl rfl ?_)
              rintro _ _ ⟨rfl, rfl⟩
              try simp only [List.cons_append, List.nil_append]
              rw [v4]
              refine LW.q rfl (Qt.eql rfl rfl) ?_
              refine LW.q rfl (Qt.assign rfl) ?_
              refine LW.done ?_
              refine T.ret ?_
              exact ⟨.inl rfl, _, _, res [_] rfl ⟨rvT rfl, trivial⟩, ⟨rfl, rfl⟩, Sub.any⟩
end Go.Proofs.YtjjhbpjbngdlnaaDoor
