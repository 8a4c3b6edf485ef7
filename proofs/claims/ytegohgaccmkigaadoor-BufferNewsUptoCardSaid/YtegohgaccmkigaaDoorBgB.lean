/- The package buffer: force, victim, Pin in all cases. Conditions: sizes; the frames are in order. -/
import Derived.Test.YtegohgaccmkigaaDoorBgA
set_option linter.unusedSimpArgs false
set_option linter.unusedVariables false
namespace Go.Proofs.YtegohgaccmkigaaDoor
open Go.RowKit

/-- Room on the disk and in the log. -/
structure WOk (W : Wl) (D : DD) : Prop where
  fit : W.first + W.count ≤ D.secs.length
  max : D.secs.length ≤ 4096
  st : W.st.length ≤ W.count * 256
  dur : W.dur ≤ W.st.length
  room : D.pend.length + 16384 < 2 ^ 32

set_option maxHeartbeats 1000000 in
set_option maxRecDepth 100000 in
theorem Bp.force (B : Base) (g b gf n first count hand : Nat) (gp : Nat) (cl : Nat) (gl : Nat) (W : Wl) (D : DD) (mark : Int) (hw : WOk W D) :
    Fn Tryd.prog B 41 #[.pointer (some ⟨g, 0, none⟩), .int .i64 mark] [poolB g b gf n first count hand (some ⟨gp, 0, none⟩) 1 cl, lgR (some ⟨gp, 0, none⟩) 1 cl [ifW gl], wlA gl b W, dskA b D] (fun u l => u = .tuple #[] ∧ l = [poolB g b gf n first count hand (some ⟨gp, 0, none⟩) 1 cl, lgR (some ⟨gp, 0, none⟩) 1 cl [ifW gl], wlA gl b (forceP W D mark).1, dskA b (forceP W D mark).2]) := by
  obtain ⟨w1, w2, w3, w4, w5⟩ := hw
  refine Fn.enter2 19 Tryd.func41 rfl rfl (Nat.le_of_ble_eq_true rfl) (fun F => ?_)
  try simp only [List.cons_append, List.nil_append]
  refine T.seq ?_
  refine T.region ?_
  refine LW.q rfl (Qt.move rfl) ?_
  refine LW.q rfl (Qt.nilCheck rfl) ?_
  refine LW.q rfl (Qt.fieldAddr (off := 5) (by kernel_rfl) rfl) ?_
  first | refine LW.q rfl (Qt.load (by kernel_rfl) rfl rfl) ?_ | refine LW.q rfl (Qt.load (by kernel_rfl) rfl (map_at _ _ _ (by omega))) ?_ | refine LW.q rfl (Qt.load (by kernel_rfl) rfl (flat_cell0 _ _ _ (by intros; rfl) _ (by omega) (by rfl))) ?_ | refine LW.q rfl (Qt.load (by kernel_rfl) rfl (flat_cell _ _ _ (by intros; rfl) _ _ (by omega) (by rfl))) ?_ | refine LW.q rfl (Qt.load (by kernel_rfl) rfl (bytes_at _ _ (by omega))) ?_
  refine LW.q rfl (Qt.len (e := 79) (sz := 1) (by kernel_rfl) rfl) ?_
  refine LW.q rfl (Qt.move rfl) ?_
  refine LW.done ?_
  refine T.block ?_
  refine T.loop (fun mz fz lz => ∃ (f0 : Fr) (k : Nat) (W2 : Wl) (D2 : DD), (k ≤ 1 ∧ (k = 0 → W2 = W ∧ D2 = D) ∧ (k = 1 → W2 = (forceP W D mark).1 ∧ D2 = (forceP W D mark).2)) ∧ mz = 1 - k ∧ fz = (upd (upd (upd (upd f0 1 (.int .i64 mark)) 9 (.slice (some ⟨gp, 0, none⟩) 1 cl)) 10 (.int .i64 1)) 11 (.int .i64 k)) ∧ lz = poolB g b gf n first count hand (some ⟨gp, 0, none⟩) 1 cl :: lgR (some ⟨gp, 0, none⟩) 1 cl [ifW gl] :: wlA gl b W2 :: dskA b D2 :: F) ?_ ?_
  · refine ⟨_, _, ⟨_, 0, W, D, ⟨Nat.zero_le _, fun _ => ⟨rfl, rfl⟩, fun h => by omega⟩, rfl, (updS rfl (updS rfl (updS rfl (updS rfl rfl)))), rfl⟩, Sub.any⟩
  · skip
    rintro mz fz lz ⟨f0, k, W2, D2, ⟨hk, hk0, hk1⟩, hmz, rfl, rfl⟩
    subst mz
    try simp only [List.cons_append, List.nil_append]
    refine T.seq ?_
    refine T.region ?_
    refine LW.q rfl (Qt.lss rfl rfl) ?_
    refine LW.done ?_
    refine T.seq ?_
    refine T.condP rfl (fun hlt => ?_) (fun hlt => ?_)
    · skip
      obtain rfl : k = 0 := by omega
      obtain ⟨e1, e2⟩ := hk0 rfl
      subst W2
      subst D2
      by_cases hm : mark ≤ W.dur
      · skip
        refine T.skip ?_
        refine T.seq ?_
        refine T.block ?_
        refine T.seq ?_
        refine T.region ?_
        refine LW.q rfl (Qt.index _ (e := 79) (sz := 1) (by kernel_rfl) rfl rfl rfl (by omega)) ?_
        refine LW.q rfl (Qt.load (v := ifW gl) (by kernel_rfl) rfl rfl) ?_
        refine LW.q rfl (Qt.assign rfl) ?_
        refine LW.done ?_
        refine T.region ?_
        refine LW.q rfl (Qt.move rfl) ?_
        refine LW.q rfl (Qt.move rfl) ?_
        refine LW.e rfl (Ef.callI (vs := [.int .i64 mark]) (Wl.forceNo B gl b W mark (by omega) hm) Tryd.func105 rfl rfl rfl (fun w => by kernel_rfl) rfl ?_)
        rintro _ _ ⟨rfl, rfl⟩
        try simp only [List.cons_append, List.nil_append]
        refine LW.done ?_
        refine T.region ?_
        refine LW.q rfl (Qt.add rfl rfl (wr64 (by omega) (by omega))) ?_
        refine LW.q rfl (Qt.move rfl) ?_
        refine LW.done ?_
        refine ⟨_, ?_, _, ⟨_, 1, W, D, ⟨Nat.le_refl _, fun h => by omega, fun _ => by unfold forceP; rw [if_pos hm]; exact ⟨rfl, rfl⟩⟩, rfl, (updS rfl (updS rfl (updS rfl (updS rfl rfl)))), rfl⟩, Sub.any⟩
        first | omega | (simp; omega)
      · skip
        refine T.skip ?_
        refine T.seq ?_
        refine T.block ?_
        refine T.seq ?_
        refine T.region ?_
        refine LW.q rfl (Qt.index _ (e := 79) (sz := 1) (by kernel_rfl) rfl rfl rfl (by omega)) ?_
        refine LW.q rfl (Qt.load (v := ifW gl) (by kernel_rfl) rfl rfl) ?_
        refine LW.q rfl (Qt.assign rfl) ?_
        refine LW.done ?_
        refine T.region ?_
        refine LW.q rfl (Qt.move rfl) ?_
        refine LW.q rfl (Qt.move rfl) ?_
        refine LW.e rfl (Ef.callI (vs := [.int .i64 mark]) (Wl.forceYes B gl b W D mark w1 w2 w3 w4 (by omega) (by omega)) Tryd.func105 rfl rfl rfl (fun w => by kernel_rfl) rfl ?_)
        rintro _ _ ⟨rfl, rfl⟩
        try simp only [List.cons_append, List.nil_append]
        refine LW.done ?_
        refine T.region ?_
        refine LW.q rfl (Qt.add rfl rfl (wr64 (by omega) (by omega))) ?_
        refine LW.q rfl (Qt.move rfl) ?_
        refine LW.done ?_
        refine ⟨_, ?_, _, ⟨_, 1, W.flushed, flushE W D, ⟨Nat.le_refl _, fun h => by omega, fun _ => by unfold forceP; rw [if_neg hm]; exact ⟨rfl, rfl⟩⟩, rfl, (updS rfl (updS rfl (updS rfl (updS rfl rfl)))), rfl⟩, Sub.any⟩
        first | omega | (simp; omega)
    · skip
      obtain rfl : k = 1 := by omega
      obtain ⟨e1, e2⟩ := hk1 rfl
      subst W2
      subst D2
      refine T.exit ?_
      exact ⟨.inr rfl, _, _, res [] rfl trivial, ⟨rfl, rfl⟩, Sub.any⟩

theorem flushE_pend (W : Wl) (D : DD) : (flushE W D).pend.length ≤ D.pend.length := by
  unfold flushE flushD
  split
  · exact Nat.le_refl _
  · simp [DD.sync]
theorem WOk.force {W : Wl} {D : DD} (h : WOk W D) (ho : D.Ok) (mark : Int) (hp : D.pend.length + 16384 < 2 ^ 32) : WOk (forceP W D mark).1 (forceP W D mark).2 ∧ (forceP W D mark).2.Ok ∧ (forceP W D mark).2.secs.length = D.secs.length ∧ (forceP W D mark).2.pend.length ≤ D.pend.length ∧ (forceP W D mark).1.first = W.first ∧ (forceP W D mark).1.count = W.count ∧ (forceP W D mark).1.st = W.st := by
  unfold forceP
  split
  · exact ⟨h, ho, rfl, Nat.le_refl _, rfl, rfl, rfl⟩
  · have hl : (flushE W D).Ok ∧ (flushE W D).secs.length = D.secs.length := by
      unfold flushE
      split
      · exact ⟨ho, rfl⟩
      · rename_i hne
        have hfit : W.first + (W.dur / 256 + flushN W) ≤ D.secs.length := by
          have := h.fit; have := h.st; have := h.dur
          unfold flushN
          omega
        have h1 := lays_ok (W := W) (k := flushN W) (n := W.dur / 256) ho hfit
        exact ⟨h1.1.sy, (DD.sync_len h1.1).trans h1.2⟩
    exact ⟨⟨by rw [hl.2]; exact h.fit, by rw [hl.2]; exact h.max, h.st, Nat.le_refl _, by have := flushE_pend W D; have := h.room; show (flushE W D).pend.length + 16384 < 2 ^ 32; omega⟩, hl.1, hl.2, flushE_pend W D, rfl, rfl, rfl⟩

theorem clock_len : ∀ {f : Nat} {A A' : List Fa} {h i h' : Nat}, clockA f A h = some (i, A', h') → A'.length = A.length ∧ i < A.length
  | 0, _, _, _, _, _, e => by cases e
  | f + 1, A, A', h, i, h', e => by
    unfold clockA at e
    split at e
    · cases e
    · rename_i x hx
      split at e
      · exact clock_len e
      · split at e
        · have := clock_len e; simpa using this
        · simp only [Option.some.injEq, Prod.mk.injEq] at e
          obtain ⟨rfl, rfl, _⟩ := e
          exact ⟨rfl, (List.getElem?_eq_some_iff.1 hx).1⟩

theorem map_a_at {Fs : List Fm} {A : List Fa} (h : Fs.map Fm.a = A) {i : Nat} {x : Fm} (hx : Fs[i]? = some x) : A[i]? = some x.a := by rw [← h, List.getElem?_map, hx]; rfl
theorem map_a_back {Fs : List Fm} {A : List Fa} (h : Fs.map Fm.a = A) {i : Nat} {y : Fa} (hx : A[i]? = some y) : ∃ x, Fs[i]? = some x ∧ x.a = y := by
  rw [← h, List.getElem?_map] at hx
  cases hf : Fs[i]? with
  | none => rw [hf] at hx; cases hx
  | some x => rw [hf] at hx; exact ⟨x, rfl, by simpa using hx⟩
theorem daA_cells {Fs : List Fm} {i : Nat} {x : Fm} (h : Fs[i]? = some x) {g : Nat} (hp : x.p = some ⟨g, 0, none⟩) (h0 : 0 < x.b.length) (k : Piece) (H : daA Fs k) : ∃ C t fr, k g = some (.cells C t fr) ∧ ∀ j v, (bytesV x.b)[j]? = some v → C[0 + j]? = some v := by
  obtain ⟨e1, e2⟩ := daA_at h H
  rcases e2 with ⟨_, e2⟩ | ⟨g', cap, cur, q1, q2, q3, q4, q5, q6⟩
  · omega
  · rw [hp] at q1
    injection q1 with q1 _ _
    injection q1 with q1
    injection q1 with q1
    subst q1
    refine ⟨_, _, _, q2, fun j v hv => ?_⟩
    rw [Nat.zero_add, ← Array.getElem?_toList]
    have hj : j < (bytesV x.b).length := (List.getElem?_eq_some_iff.1 hv).1
    rw [← q6, List.getElem?_take] at hv
    split at hv
    · exact hv
    · cases hv

theorem clock_succ {f : Nat} {A : List Fa} {h : Nat} {r : Nat × List Fa × Nat} (e : clockA f A h = some r) : ∃ f', f = f' + 1 := by
  cases f with
  | zero => cases e
  | succ f' => exact ⟨f', rfl⟩
theorem fm_unuse {Fs : List Fm} {h j : Nat} {y z : Fm} (hy : Fs[h]? = some y) (hz : (Fs.set h { y with used := false })[j]? = some z) : ∃ z', Fs[j]? = some z' ∧ z.page = z'.page ∧ z.b = z'.b ∧ z.p = z'.p := by
  rw [List.getElem?_set] at hz
  split at hz
  · rename_i e; subst e; rw [if_pos (List.getElem?_eq_some_iff.1 hy).1] at hz; simp at hz; subst hz; exact ⟨y, hy, rfl, rfl, rfl⟩
  · exact ⟨z, hz, rfl, rfl, rfl⟩
set_option maxHeartbeats 4000000 in
set_option maxRecDepth 100000 in
theorem Bp.victim_clock (B : Base) (g b gf n first count hand : Nat) (gp cl gl : Nat) (W : Wl) (D : DD) (Fs : List Fm) (hn : Fs.length = n) (hn2 : n ≤ 4096) (hh : hand < n)
    (hfr : ∀ (j : Nat) (x : Fm), Fs[j]? = some x → 0 ≤ x.page ∧ x.page < count ∧ x.b.length = 256) (hpt : ∀ (i : Nat) (x : Fm), Fs[i]? = some x → 0 < x.b.length → ∃ g, x.p = some ⟨g, 0, none⟩)
    (hun : (Fs.all fun x => decide (0 < x.pins)) = false) (hw : WOk W D) (ho : D.Ok) (hsec : first + count ≤ D.secs.length) (i h' : Nat) (A' : List Fa) (x' : Fa) (hc : clockA (2 * n + 1) (Fs.map Fm.a) hand = some (i, A', h')) (hx' : A'[i]? = some x') :
    Fn Tryd.prog B 35 #[.pointer (some ⟨g, 0, none⟩)] [poolB g b gf n first count hand (some ⟨gp, 0, none⟩) 1 cl, fmR gf n Fs, lgR (some ⟨gp, 0, none⟩) 1 cl [ifW gl], wlA gl b W, dskA b D, daA Fs]
      (fun u l => ∃ Fs', Fs'.map Fm.a = A' ∧ Fs'.length = n ∧ u = .pointer (some ⟨gf, 0 + i * 6, none⟩) ∧ l = [poolB g b gf n first count h' (some ⟨gp, 0, none⟩) 1 cl, fmR gf n Fs', lgR (some ⟨gp, 0, none⟩) 1 cl [ifW gl], wlA gl b (giveP first W D x').1, dskA b (giveP first W D x').2, daA Fs']) := by
  have hn0 : 0 < n := by omega
  refine Fn.enter1 105 Tryd.func35 rfl rfl (Nat.le_of_ble_eq_true rfl) (fun F => ?_)
  try simp only [List.cons_append, List.nil_append]
  refine T.seq ?_
  refine T.region ?_
  refine LW.q rfl (Qt.assign rfl) ?_
  refine LW.done ?_
  refine T.seq ?_
  refine T.region ?_
  refine LW.q rfl (Qt.assign rfl) ?_
  refine LW.done ?_
  refine T.seq ?_
  refine T.seq ?_
  refine T.region ?_
  refine LW.q rfl (Qt.move rfl) ?_
  refine LW.q rfl (Qt.nilCheck rfl) ?_
  refine LW.q rfl (Qt.fieldAddr (off := 3) (by kernel_rfl) rfl) ?_
  first | refine LW.q rfl (Qt.load (by kernel_rfl) rfl rfl) ?_ | refine LW.q rfl (Qt.load (by kernel_rfl) rfl (map_at _ _ _ (by omega))) ?_ | refine LW.q rfl (Qt.load (by kernel_rfl) rfl (flat_cell0 _ _ _ (by intros; rfl) _ (by omega) (by rfl))) ?_ | refine LW.q rfl (Qt.load (by kernel_rfl) rfl (flat_cell _ _ _ (by intros; rfl) _ _ (by omega) (by rfl))) ?_ | refine LW.q rfl (Qt.load (by kernel_rfl) rfl (bytes_at _ _ (by omega))) ?_
  refine LW.q rfl (Qt.len (e := 81) (sz := 6) (by kernel_rfl) rfl) ?_
  refine LW.q rfl (Qt.move rfl) ?_
  refine LW.done ?_
  refine T.block ?_
  refine T.loop (fun mz fz lz => ∃ (f0 : Fr) (k : Nat) (fb : Bool), (k ≤ n ∧ fb = (Fs.take k).all fun x => decide (0 < x.pins)) ∧ mz = n - k ∧ fz = (upd (upd (upd (upd f0 0 (.pointer (some ⟨g, 0, none⟩))) 3 (.bool fb)) 11 (.int .i64 n)) 12 (.int .i64 k)) ∧ lz = poolB g b gf n first count hand (some ⟨gp, 0, none⟩) 1 cl :: fmR gf n Fs :: lgR (some ⟨gp, 0, none⟩) 1 cl [ifW gl] :: wlA gl b W :: dskA b D :: daA Fs :: F) ?_ ?_
  · refine ⟨_, _, ⟨_, 0, true, ⟨Nat.zero_le _, rfl⟩, rfl, (updS rfl (updS rfl (updS rfl (updS rfl rfl)))), rfl⟩, Sub.any⟩
  · skip
    rintro mz fz lz ⟨f0, k, fb, ⟨hk, hfb⟩, hmz, rfl, rfl⟩
    subst mz
    try simp only [List.cons_append, List.nil_append]
    refine T.seq ?_
    refine T.region ?_
    refine LW.q rfl (Qt.lss rfl rfl) ?_
    refine LW.done ?_
    refine T.seq ?_
    refine T.condP rfl (fun hlt => ?_) (fun hlt => ?_)
    · skip
      obtain ⟨y, hy⟩ : ∃ y, Fs[k]? = some y := ⟨_, List.getElem?_eq_getElem (by omega)⟩
      have hpos := (hfr k y hy).1
      refine T.skip ?_
      refine T.seq ?_
      refine T.block ?_
      refine T.seq ?_
      refine T.region ?_
      refine LW.q rfl (Qt.move rfl) ?_
      refine LW.q rfl (Qt.assign rfl) ?_
      refine LW.done ?_
      refine T.seq ?_
      refine T.region ?_
      refine LW.q rfl (Qt.move rfl) ?_
      refine LW.q rfl (Qt.nilCheck rfl) ?_
      refine LW.q rfl (Qt.fieldAddr (off := 3) (by kernel_rfl) rfl) ?_
      first | refine LW.q rfl (Qt.load (by kernel_rfl) rfl rfl) ?_ | refine LW.q rfl (Qt.load (by kernel_rfl) rfl (map_at _ _ _ (by omega))) ?_ | refine LW.q rfl (Qt.load (by kernel_rfl) rfl (flat_cell0 _ _ _ (by intros; rfl) _ (by omega) (by rfl))) ?_ | refine LW.q rfl (Qt.load (by kernel_rfl) rfl (flat_cell _ _ _ (by intros; rfl) _ _ (by omega) (by rfl))) ?_ | refine LW.q rfl (Qt.load (by kernel_rfl) rfl (bytes_at _ _ (by omega))) ?_
      refine LW.q rfl (Qt.move rfl) ?_
      refine LW.q rfl (Qt.index _ (e := 81) (sz := 6) (by kernel_rfl) rfl rfl rfl (by omega)) ?_
      refine LW.q rfl (Qt.assign rfl) ?_
      refine LW.done ?_
      refine T.seq ?_
      refine T.seq ?_
      refine T.region ?_
      refine LW.q rfl (Qt.move rfl) ?_
      refine LW.q rfl (Qt.nilCheck rfl) ?_
      refine LW.q rfl (Qt.fieldAddr0 (by kernel_rfl) rfl) ?_
      refine LW.q rfl (Qt.load (v := .int .i64 y.page) (by kernel_rfl) rfl (fm_at hy 0 (by omega))) ?_
      refine LW.q rfl (Qt.lss rfl rfl) ?_
      refine LW.done ?_
      first | refine T.condF rfl ?_ | refine T.condPF rfl (by omega) ?_ | refine T.condBF rfl (by omega) ?_
      refine T.skip ?_
      refine T.region ?_
      refine LW.q rfl (Qt.move rfl) ?_
      refine LW.q rfl (Qt.move rfl) ?_
      refine LW.split (t := 28) rfl (fun hb => ?_) (fun hb => ?_)
      · skip
        try replace hb := of_decide_eq_true hb
        refine LW.q rfl (Qt.move rfl) ?_
        refine LW.q rfl (Qt.nilCheck rfl) ?_
        refine LW.q rfl (Qt.fieldAddr (off := 3) (by kernel_rfl) rfl) ?_
        refine LW.q rfl (Qt.load (v := .int .i64 y.pins) (by kernel_rfl) rfl (fm_at hy 3 (by omega))) ?_
        refine LW.q rfl (Qt.gtr rfl rfl) ?_
        refine LW.q rfl (Qt.pick rfl rfl) ?_
        refine LW.q rfl (Qt.assign rfl) ?_
        refine LW.done ?_
        refine T.region ?_
        refine LW.q rfl (Qt.add rfl rfl (wr64 (by omega) (by omega))) ?_
        refine LW.q rfl (Qt.move rfl) ?_
        refine LW.done ?_
        refine ⟨_, ?_, _, ⟨_, k + 1, _, ⟨by omega, by rw [List.take_add_one, hy, List.all_append, ← hfb, hb]; simp⟩, rfl, (updS rfl (updS rfl (updS rfl (updS rfl rfl)))), rfl⟩, Sub.any⟩
        first | omega | (simp; omega)
      · skip
        try replace hb := of_decide_eq_false hb
        refine LW.s rfl ?_
        refine LW.s rfl ?_
        refine LW.s rfl ?_
        refine LW.s rfl ?_
        refine LW.s rfl ?_
        refine LW.q rfl (Qt.pick rfl rfl) ?_
        refine LW.q rfl (Qt.assign rfl) ?_
        refine LW.done ?_
        refine T.region ?_
        refine LW.q rfl (Qt.add rfl rfl (wr64 (by omega) (by omega))) ?_
        refine LW.q rfl (Qt.move rfl) ?_
        refine LW.done ?_
        refine ⟨_, ?_, _, ⟨_, k + 1, _, ⟨by omega, by rw [List.take_add_one, hy, List.all_append, ← hfb, hb]; simp⟩, rfl, (updS rfl (updS rfl (updS rfl (updS rfl rfl)))), rfl⟩, Sub.any⟩
        first | omega | (simp; omega)
    · skip
      obtain rfl : n = k := by omega
      rw [← hn, List.take_length, hun] at hfb
      subst hfb
      refine T.exit ?_
      refine T.seq ?_
      refine T.seq ?_
      refine T.region ?_
      refine LW.q rfl (Qt.move rfl) ?_
      refine LW.done ?_
      first | refine T.condF rfl ?_ | refine T.condPF rfl (by omega) ?_ | refine T.condBF rfl (by omega) ?_
      clear hlt hk
      refine T.skip ?_
      refine T.block ?_
      refine T.loop (fun mz fz lz => ∃ (f0 : Fr) (fu : Nat) (Fs2 : List Fm) (h2 : Nat), (Fs2.length = n ∧ h2 < n ∧ clockA fu (Fs2.map Fm.a) h2 = some (i, A', h') ∧ (∀ (j : Nat) (x : Fm), Fs2[j]? = some x → 0 ≤ x.page ∧ x.page < count ∧ x.b.length = 256) ∧ (∀ (i : Nat) (x : Fm), Fs2[i]? = some x → 0 < x.b.length → ∃ g, x.p = some ⟨g, 0, none⟩)) ∧ mz = fu ∧ fz = (upd f0 0 (.pointer (some ⟨g, 0, none⟩))) ∧ lz = poolB g b gf n first count h2 (some ⟨gp, 0, none⟩) 1 cl :: fmR gf n Fs2 :: lgR (some ⟨gp, 0, none⟩) 1 cl [ifW gl] :: wlA gl b W :: dskA b D :: daA Fs2 :: F) ?_ ?_
      · refine ⟨_, _, ⟨_, 2 * n + 1, Fs, hand, ⟨hn, hh, hc, hfr, hpt⟩, rfl, (updS rfl rfl), rfl⟩, Sub.any⟩
      · skip
        rintro mz fz lz ⟨f0, fu, Fs2, h2, ⟨hl2, hh2, hc2, hfr2, hpt2⟩, hmz, rfl, rfl⟩
        subst mz
        try simp only [List.cons_append, List.nil_append]
        obtain ⟨y, hy⟩ : ∃ y, Fs2[h2]? = some y := ⟨_, List.getElem?_eq_getElem (by omega)⟩
        obtain ⟨y1, y2, y3⟩ := hfr2 h2 y hy
        obtain ⟨fu', rfl⟩ := clock_succ hc2
        have hstep := hc2
        unfold clockA at hstep
        rw [map_a_at rfl hy] at hstep
        dsimp only at hstep
        rw [List.length_map, hl2] at hstep
        have hmod : (h2 + 1) % n < n := Nat.mod_lt _ hn0
        refine T.block ?_
        refine T.seq ?_
        refine T.drawAll 9 (by kernel_rfl) (Nat.le_of_ble_eq_true rfl) (by kernel_rfl) ?_
        refine RW.q 0 rfl rfl (by kernel_rfl) (Sub.refl _) (Qt.move rfl) ?_
        refine RW.q 1 rfl rfl (by kernel_rfl) (Sub.refl _) (Qt.nilCheck rfl) ?_
        refine RW.q 2 rfl rfl (by kernel_rfl) (Sub.refl _) (Qt.fieldAddr (off := 3) (by kernel_rfl) rfl) ?_
        first | refine RW.q 3 rfl rfl (by kernel_rfl) (Sub.refl _) (Qt.load (by kernel_rfl) rfl rfl) ?_ | refine RW.q 3 rfl rfl (by kernel_rfl) (Sub.refl _) (Qt.load (by kernel_rfl) rfl (map_at _ _ _ (by omega))) ?_ | refine RW.q 3 rfl rfl (by kernel_rfl) (Sub.refl _) (Qt.load (by kernel_rfl) rfl (flat_cell0 _ _ _ (by intros; rfl) _ (by omega) (by rfl))) ?_ | refine RW.q 3 rfl rfl (by kernel_rfl) (Sub.refl _) (Qt.load (by kernel_rfl) rfl (flat_cell _ _ _ (by intros; rfl) _ _ (by omega) (by rfl))) ?_ | refine RW.q 3 rfl rfl (by kernel_rfl) (Sub.refl _) (Qt.load (by kernel_rfl) rfl (bytes_at _ _ (by omega))) ?_
        refine RW.q 4 rfl rfl (by kernel_rfl) (Sub.refl _) (Qt.move rfl) ?_
        refine RW.q 5 rfl rfl (by kernel_rfl) (Sub.refl _) (Qt.nilCheck rfl) ?_
        refine RW.q 6 rfl rfl (by kernel_rfl) (Sub.refl _) (Qt.fieldAddr (off := 4) (by kernel_rfl) rfl) ?_
        first | refine RW.q 7 rfl rfl (by kernel_rfl) (Sub.refl _) (Qt.load (by kernel_rfl) rfl rfl) ?_ | refine RW.q 7 rfl rfl (by kernel_rfl) (Sub.refl _) (Qt.load (by kernel_rfl) rfl (map_at _ _ _ (by omega))) ?_ | refine RW.q 7 rfl rfl (by kernel_rfl) (Sub.refl _) (Qt.load (by kernel_rfl) rfl (flat_cell0 _ _ _ (by intros; rfl) _ (by omega) (by rfl))) ?_ | refine RW.q 7 rfl rfl (by kernel_rfl) (Sub.refl _) (Qt.load (by kernel_rfl) rfl (flat_cell _ _ _ (by intros; rfl) _ _ (by omega) (by rfl))) ?_ | refine RW.q 7 rfl rfl (by kernel_rfl) (Sub.refl _) (Qt.load (by kernel_rfl) rfl (bytes_at _ _ (by omega))) ?_
        refine RW.q 8 rfl rfl (by kernel_rfl) (Sub.refl _) (Qt.index _ (e := 81) (sz := 6) (by kernel_rfl) rfl rfl rfl (by omega)) ?_
        refine RW.done (by rfl) ?_
        simp only [List.drop_succ_cons, List.drop_zero, List.drop_nil]
        refine LW.q rfl (Qt.assign rfl) ?_
        refine LW.done ?_
        refine T.seq ?_
        refine T.drawAll 12 (by kernel_rfl) (Nat.le_of_ble_eq_true rfl) (by kernel_rfl) ?_
        refine RW.q 0 rfl rfl (by kernel_rfl) (Sub.refl _) (Qt.move rfl) ?_
        refine RW.q 1 rfl rfl (by kernel_rfl) (Sub.refl _) (Qt.move rfl) ?_
        refine RW.q 2 rfl rfl (by kernel_rfl) (Sub.refl _) (Qt.nilCheck rfl) ?_
        refine RW.q 3 rfl rfl (by kernel_rfl) (Sub.refl _) (Qt.fieldAddr (off := 4) (by kernel_rfl) rfl) ?_
        first | refine RW.q 4 rfl rfl (by kernel_rfl) (Sub.refl _) (Qt.load (by kernel_rfl) rfl rfl) ?_ | refine RW.q 4 rfl rfl (by kernel_rfl) (Sub.refl _) (Qt.load (by kernel_rfl) rfl (map_at _ _ _ (by omega))) ?_ | refine RW.q 4 rfl rfl (by kernel_rfl) (Sub.refl _) (Qt.load (by kernel_rfl) rfl (flat_cell0 _ _ _ (by intros; rfl) _ (by omega) (by rfl))) ?_ | refine RW.q 4 rfl rfl (by kernel_rfl) (Sub.refl _) (Qt.load (by kernel_rfl) rfl (flat_cell _ _ _ (by intros; rfl) _ _ (by omega) (by rfl))) ?_ | refine RW.q 4 rfl rfl (by kernel_rfl) (Sub.refl _) (Qt.load (by kernel_rfl) rfl (bytes_at _ _ (by omega))) ?_
        refine RW.q 5 rfl rfl (by kernel_rfl) (Sub.refl _) (Qt.add rfl rfl (wr64 (by omega) (by omega))) ?_
        refine RW.q 6 rfl rfl (by kernel_rfl) (Sub.refl _) (Qt.move rfl) ?_
        refine RW.q 7 rfl rfl (by kernel_rfl) (Sub.refl _) (Qt.nilCheck rfl) ?_
        refine RW.q 8 rfl rfl (by kernel_rfl) (Sub.refl _) (Qt.fieldAddr (off := 3) (by kernel_rfl) rfl) ?_
        first | refine RW.q 9 rfl rfl (by kernel_rfl) (Sub.refl _) (Qt.load (by kernel_rfl) rfl rfl) ?_ | refine RW.q 9 rfl rfl (by kernel_rfl) (Sub.refl _) (Qt.load (by kernel_rfl) rfl (map_at _ _ _ (by omega))) ?_ | refine RW.q 9 rfl rfl (by kernel_rfl) (Sub.refl _) (Qt.load (by kernel_rfl) rfl (flat_cell0 _ _ _ (by intros; rfl) _ (by omega) (by rfl))) ?_ | refine RW.q 9 rfl rfl (by kernel_rfl) (Sub.refl _) (Qt.load (by kernel_rfl) rfl (flat_cell _ _ _ (by intros; rfl) _ _ (by omega) (by rfl))) ?_ | refine RW.q 9 rfl rfl (by kernel_rfl) (Sub.refl _) (Qt.load (by kernel_rfl) rfl (bytes_at _ _ (by omega))) ?_
        refine RW.q 10 rfl rfl (by kernel_rfl) (Sub.refl _) (Qt.len (e := 81) (sz := 6) (by kernel_rfl) rfl) ?_
        refine RW.q 11 rfl rfl (by kernel_rfl) (Sub.refl _) (Qt.rem rfl rfl (by omega) (show ((h2 : Int) + 1).tmod (n : Int) = (((h2 + 1) % n : Nat) : Int) by rw [Int.tmod_eq_emod_of_nonneg (by omega)]; norm_cast)) ?_
        refine RW.done (by rfl) ?_
        simp only [List.drop_succ_cons, List.drop_zero, List.drop_nil]
        refine LW.q rfl (Qt.nilCheck rfl) ?_
        refine LW.q rfl (Qt.fieldAddr (off := 4) (by kernel_rfl) rfl) ?_
        refine LW.e0 rfl (Ef.store1 (by kernel_rfl) rfl rfl rfl (by first | (simp; done) | (simp; omega)) ?_)
        try simp only [List.set_cons_zero, List.set_cons_succ]
        refine LW.done ?_
        refine T.block ?_
        refine T.seq ?_
        refine T.region ?_
        refine LW.q rfl (Qt.move rfl) ?_
        refine LW.q rfl (Qt.nilCheck rfl) ?_
        refine LW.q rfl (Qt.fieldAddr (off := 3) (by kernel_rfl) rfl) ?_
        refine LW.q rfl (Qt.load (v := .int .i64 y.pins) (by kernel_rfl) rfl (fm_at hy 3 (by omega))) ?_
        refine LW.q rfl (Qt.gtr rfl rfl) ?_
        refine LW.q rfl (Qt.assign rfl) ?_
        refine LW.done ?_
        refine T.condP rfl (fun hpin => ?_) (fun hpin => ?_)
        · skip
          rw [if_pos (show 0 < y.a.pins from hpin)] at hstep
          refine T.skip ?_
          refine ⟨_, ?_, _, ⟨_, fu', Fs2, (h2 + 1) % n, ⟨hl2, hmod, hstep, hfr2, hpt2⟩, rfl, (updS rfl rfl), rfl⟩, Sub.any⟩
          first | omega | (simp; omega)
        · skip
          rw [if_neg (show ¬ 0 < y.a.pins from hpin)] at hstep
          refine T.seq ?_
          refine T.region ?_
          refine LW.q rfl (Qt.move rfl) ?_
          refine LW.q rfl (Qt.nilCheck rfl) ?_
          refine LW.q rfl (Qt.fieldAddr (off := 5) (by kernel_rfl) rfl) ?_
          refine LW.q rfl (Qt.load (v := .bool y.used) (by kernel_rfl) rfl (fm_at hy 5 (by omega))) ?_
          refine LW.q rfl (Qt.assign rfl) ?_
          refine LW.done ?_
          refine T.cond rfl (fun hu => ?_) (fun hu => ?_)
          · skip
            have hfl := fm_len Fs2
            rw [if_pos (show y.a.used = true from hu)] at hstep
            have hmem := fun j z => fm_unuse (Fs := Fs2) (j := j) (z := z) hy
            refine T.region ?_
            refine LW.q rfl (Qt.move rfl) ?_
            refine LW.q rfl (Qt.nilCheck rfl) ?_
            refine LW.q rfl (Qt.fieldAddr (off := 5) (by kernel_rfl) rfl) ?_
            refine LW.e0 rfl (Ef.store1 (by kernel_rfl) rfl rfl rfl (by omega) ?_)
            rw [fm_set (y := { y with used := false }) hy 5 (by omega) _ rfl, ← da_same (y := { y with used := false }) hy rfl rfl rfl]
            refine LW.done ?_
            refine ⟨_, ?_, _, ⟨_, fu', Fs2.set h2 { y with used := false }, (h2 + 1) % n, ⟨by rw [List.length_set]; exact hl2, hmod, by rw [List.map_set]; exact hstep, fun j z hz => by obtain ⟨z', q1, q2, q3, q4⟩ := hmem j z hz; rw [q2, q3]; exact hfr2 j z' q1, fun j z hz => by obtain ⟨z', q1, q2, q3, q4⟩ := hmem j z hz; rw [q3, q4]; exact hpt2 j z' q1⟩, rfl, (updS rfl rfl), rfl⟩, Sub.any⟩
            first | omega | (simp; omega)
          · skip
            rw [if_neg (show ¬ y.a.used = true by rw [show y.a.used = y.used from rfl, hu]; simp)] at hstep
            simp only [Option.some.injEq, Prod.mk.injEq] at hstep
            obtain ⟨rfl, rfl, rfl⟩ := hstep
            obtain rfl : y.a = x' := by rw [map_a_at rfl hy] at hx'; exact Option.some.inj hx'
            refine T.seq ?_
            refine T.seq ?_
            refine T.region ?_
            refine LW.q rfl (Qt.move rfl) ?_
            refine LW.q rfl (Qt.nilCheck rfl) ?_
            refine LW.q rfl (Qt.fieldAddr (off := 4) (by kernel_rfl) rfl) ?_
            refine LW.q rfl (Qt.load (v := .bool y.dirty) (by kernel_rfl) rfl (fm_at hy 4 (by omega))) ?_
            refine LW.done ?_
            refine T.cond rfl (fun hd => ?_) (fun hd => ?_)
            · skip
              obtain ⟨gx, hgx⟩ := hpt2 h2 y hy (by omega)
              obtain ⟨f1, f2, f3, f4, f5, f6, f7⟩ := hw.force ho y.mark hw.room
              have hroom := hw.room
              have hwmx := hw.max
              refine T.seq ?_
              refine T.region ?_
              refine LW.q rfl (Qt.move rfl) ?_
              refine LW.q rfl (Qt.move rfl) ?_
              refine LW.q rfl (Qt.nilCheck rfl) ?_
              refine LW.q rfl (Qt.fieldAddr (off := 2) (by kernel_rfl) rfl) ?_
              refine LW.q rfl (Qt.load (v := .int .i64 y.mark) (by kernel_rfl) rfl (fm_at hy 2 (by omega))) ?_
              refine LW.e rfl (Ef.call (Bp.force B g b gf n first count ((h2 + 1) % n) gp cl gl W D y.mark hw) Tryd.func41 rfl rfl rfl ?_)
              rintro _ _ ⟨rfl, rfl⟩
              try simp only [List.cons_append, List.nil_append]
              refine LW.done ?_
              refine T.draw 20 ([poolB g b gf n first count ((h2 + 1) % n) (some ⟨gp, 0, none⟩) 1 cl, fmR gf n Fs2]) (by kernel_rfl) (Nat.le_of_ble_eq_true rfl) (by kernel_rfl) ?_
              refine RW.q 0 rfl rfl (by kernel_rfl) Sub.any (Qt.move rfl) ?_
              refine RW.q 1 rfl rfl (by kernel_rfl) Sub.any (Qt.nilCheck rfl) ?_
              refine RW.q 2 rfl rfl (by kernel_rfl) Sub.any (Qt.fieldAddr0 (by kernel_rfl) rfl) ?_
              refine RW.q 3 rfl rfl (by kernel_rfl) Sub.any (Qt.fieldAddr0 (by kernel_rfl) rfl) ?_
              first | refine RW.q 4 rfl rfl (by kernel_rfl) Sub.any (Qt.load (by kernel_rfl) rfl rfl) ?_ | refine RW.q 4 rfl rfl (by kernel_rfl) Sub.any (Qt.load (by kernel_rfl) rfl (map_at _ _ _ (by omega))) ?_ | refine RW.q 4 rfl rfl (by kernel_rfl) Sub.any (Qt.load (by kernel_rfl) rfl (flat_cell0 _ _ _ (by intros; rfl) _ (by omega) (by rfl))) ?_ | refine RW.q 4 rfl rfl (by kernel_rfl) Sub.any (Qt.load (by kernel_rfl) rfl (flat_cell _ _ _ (by intros; rfl) _ _ (by omega) (by rfl))) ?_ | refine RW.q 4 rfl rfl (by kernel_rfl) Sub.any (Qt.load (by kernel_rfl) rfl (bytes_at _ _ (by omega))) ?_
              refine RW.q 5 rfl rfl (by kernel_rfl) Sub.any (Qt.move rfl) ?_
              refine RW.q 6 rfl rfl (by kernel_rfl) Sub.any (Qt.nilCheck rfl) ?_
              refine RW.q 7 rfl rfl (by kernel_rfl) Sub.any (Qt.fieldAddr0 (by kernel_rfl) rfl) ?_
              refine RW.q 8 rfl rfl (by kernel_rfl) Sub.any (Qt.fieldAddr (off := 1) (by kernel_rfl) rfl) ?_
              first | refine RW.q 9 rfl rfl (by kernel_rfl) Sub.any (Qt.load (by kernel_rfl) rfl rfl) ?_ | refine RW.q 9 rfl rfl (by kernel_rfl) Sub.any (Qt.load (by kernel_rfl) rfl (map_at _ _ _ (by omega))) ?_ | refine RW.q 9 rfl rfl (by kernel_rfl) Sub.any (Qt.load (by kernel_rfl) rfl (flat_cell0 _ _ _ (by intros; rfl) _ (by omega) (by rfl))) ?_ | refine RW.q 9 rfl rfl (by kernel_rfl) Sub.any (Qt.load (by kernel_rfl) rfl (flat_cell _ _ _ (by intros; rfl) _ _ (by omega) (by rfl))) ?_ | refine RW.q 9 rfl rfl (by kernel_rfl) Sub.any (Qt.load (by kernel_rfl) rfl (bytes_at _ _ (by omega))) ?_
              refine RW.q 10 rfl rfl (by kernel_rfl) Sub.any (Qt.move rfl) ?_
              refine RW.q 11 rfl rfl (by kernel_rfl) Sub.any (Qt.nilCheck rfl) ?_
              refine RW.q 12 rfl rfl (by kernel_rfl) Sub.any (Qt.fieldAddr0 (by kernel_rfl) rfl) ?_
              refine RW.q 13 rfl rfl (by kernel_rfl) Sub.any (Qt.load (v := .int .i64 y.page) (by kernel_rfl) rfl (fm_at hy 0 (by omega))) ?_
              refine RW.q 14 rfl rfl (by kernel_rfl) Sub.any (Qt.add rfl rfl (wr64 (by omega) (by omega))) ?_
              refine RW.q 15 rfl rfl (by kernel_rfl) Sub.any (Qt.move rfl) ?_
              refine RW.q 16 rfl rfl (by kernel_rfl) Sub.any (Qt.nilCheck rfl) ?_
              refine RW.q 17 rfl rfl (by kernel_rfl) Sub.any (Qt.fieldAddr (off := 1) (by kernel_rfl) rfl) ?_
              refine RW.q 18 rfl rfl (by kernel_rfl) Sub.any (Qt.load (v := .slice (some ⟨gx, 0, none⟩) 256 y.c) (by kernel_rfl) rfl (by rw [fm_at hy 1 (by omega)]; simp [hgx, y3])) ?_
              refine RW.one 19 (by kernel_rfl) ?_
              refine RO.eS rfl rfl (Ef.call (Dk.writeF B b (forceP W D y.mark).2 (daA Fs2) gx 0 y.c (first + y.page.toNat) _ (by omega) y.b (fun h H => daA_cells hy hgx (by omega) h H) (by omega) y3 (by omega)) Tryd.func42 rfl rfl rfl ?_)
              rintro _ _ ⟨rfl, rfl⟩
              try simp only [List.cons_append, List.nil_append]
              refine ⟨Sub.any, ?_⟩
              refine RW.done (by rfl) ?_
              simp only [List.drop_succ_cons, List.drop_zero, List.drop_nil]
              refine LW.done ?_
              refine T.seq ?_
              refine T.region ?_
              refine LW.q rfl (Qt.move rfl) ?_
              refine LW.q rfl (Qt.assign rfl) ?_
              refine LW.done ?_
              rw [show giveP first W D y.a = ((forceP W D y.mark).1, (forceP W D y.mark).2.write (first + y.page.toNat) y.b) by unfold giveP; rw [if_pos (show y.a.dirty = true from hd)]; rfl]
              refine T.ret ?_
              exact ⟨.inl rfl, _, _, res [_] rfl ⟨rvT rfl, trivial⟩, ⟨Fs2, rfl, hl2, rfl, rfl⟩, Sub.any⟩
            · skip
              rw [show giveP first W D y.a = (W, D) by unfold giveP; rw [if_neg (show ¬ y.a.dirty = true by rw [show y.a.dirty = y.dirty from rfl, hd]; simp)]]
              refine T.skip ?_
              refine T.seq ?_
              refine T.region ?_
              refine LW.q rfl (Qt.move rfl) ?_
              refine LW.q rfl (Qt.assign rfl) ?_
              refine LW.done ?_
              refine T.ret ?_
              exact ⟨.inl rfl, _, _, res [_] rfl ⟨rvT rfl, trivial⟩, ⟨Fs2, rfl, hl2, rfl, rfl⟩, Sub.any⟩
end Go.Proofs.YtegohgaccmkigaaDoor
