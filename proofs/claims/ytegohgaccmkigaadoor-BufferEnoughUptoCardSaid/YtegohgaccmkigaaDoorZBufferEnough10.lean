/- The texts BgB BgC BgD BfE BgE BgF, one behind the other: what the law leans on. Conditions: as each theorem says. -/
import Derived.Test.YtegohgaccmkigaaDoorZBufferEnough9
/- The package buffer: force, victim, Pin in all cases. Conditions: sizes; the frames are in order. -/
set_option linter.unusedSimpArgs false
set_option linter.unusedVariables false
namespace Go.Proofs.YtegohgaccmkigaaDoor
open Go.RowKit

/-- Room on the disk and in the log. -/
structure WOk (W : Wl) (D : DD) : Prop where
  fit : W.first + W.count ≤ D.secs.length
  max : D.secs.length ≤ 4096
  st : W.st.length ≤ W.count * 256
  dur : W.dur ≤ W.st.length
  room : D.pend.length + 16384 < 2 ^ 32

set_option maxHeartbeats 1000000 in
set_option maxRecDepth 100000 in
theorem Bp.force (B : Base) (g b gf n first count hand : Nat) (gp : Nat) (cl : Nat) (gl : Nat) (W : Wl) (D : DD) (mark : Int) (hw : WOk W D) :
  Fn Tryd.prog B 41 #[.pointer (some ⟨g, 0, none⟩), .int .i64 mark] [poolB g b gf n first count hand (some ⟨gp, 0, none⟩) 1 cl, lgR (some ⟨gp, 0, none⟩) 1 cl [ifW gl], wlA gl b W, dskA b D] (fun u l => u = .tuple #[] ∧ l = [poolB g b gf n first count hand (some ⟨gp, 0, none⟩) 1 cl, lgR (some ⟨gp, 0, none⟩) 1 cl [ifW gl], wlA gl b (forceP W D mark).1, dskA b (forceP W D mark).2]) := by
 obtain ⟨w1, w2, w3, w4, w5⟩ := hw
 refine Fn.enter2 19 Tryd.func41 rfl rfl (Nat.le_of_ble_eq_true rfl) (fun F => ?_)
 try simp only [List.cons_append, List.nil_append]
 refine T.seq ?_
 refine T.region ?_
 refine LW.q rfl (Qt.move rfl) ?_
 refine LW.q rfl (Qt.nilCheck rfl) ?_
 refine LW.q rfl (Qt.fieldAddr (off := 5) (by kernel_rfl) rfl) ?_
 first | refine LW.q rfl (Qt.load (by kernel_rfl) rfl rfl) ?_ | refine LW.q rfl (Qt.load (by kernel_rfl) rfl (map_at _ _ _ (by omega))) ?_ | refine LW.q rfl (Qt.load (by kernel_rfl) rfl (flat_cell0 _ _ _ (by intros; rfl) _ (by omega) (by rfl))) ?_ | refine LW.q rfl (Qt.load (by kernel_rfl) rfl (flat_cell _ _ _ (by intros; rfl) _ _ (by omega) (by rfl))) ?_ | refine LW.q rfl (Qt.load (by kernel_rfl) rfl (bytes_at _ _ (by omega))) ?_
 refine LW.q rfl (Qt.len (e := 79) (sz := 1) (by kernel_rfl) rfl) ?_
 refine LW.q rfl (Qt.move rfl) ?_
 refine LW.done ?_
 refine T.block ?_
 refine T.loop (fun mz fz lz => ∃ (f0 : Fr) (k : Nat) (W2 : Wl) (D2 : DD), (k ≤ 1 ∧ (k = 0 → W2 = W ∧ D2 = D) ∧ (k = 1 → W2 = (forceP W D mark).1 ∧ D2 = (forceP W D mark).2)) ∧ mz = 1 - k ∧ fz = (upd (upd (upd (upd f0 1 (.int .i64 mark)) 9 (.slice (some ⟨gp, 0, none⟩) 1 cl)) 10 (.int .i64 1)) 11 (.int .i64 k)) ∧ lz = poolB g b gf n first count hand (some ⟨gp, 0, none⟩) 1 cl :: lgR (some ⟨gp, 0, none⟩) 1 cl [ifW gl] :: wlA gl b W2 :: dskA b D2 :: F) ?_ ?_
 · refine ⟨_, _, ⟨_, 0, W, D, ⟨Nat.zero_le _, fun _ => ⟨rfl, rfl⟩, fun h => by omega⟩, rfl, (updS rfl (updS rfl (updS rfl (updS rfl rfl)))), rfl⟩, Sub.any⟩
 ·
  rintro mz fz lz ⟨f0, k, W2, D2, ⟨hk, hk0, hk1⟩, hmz, rfl, rfl⟩
  subst mz
  try simp only [List.cons_append, List.nil_append]
  refine T.seq ?_
  refine T.region ?_
  refine LW.q rfl (Qt.lss rfl rfl) ?_
  refine LW.done ?_
  refine T.seq ?_
  refine T.condP rfl (fun hlt => ?_) (fun hlt => ?_)
  ·
   obtain rfl : k = 0 := by omega
   obtain ⟨e1, e2⟩ := hk0 rfl
   subst W2
   subst D2
   by_cases hm : mark ≤ W.dur
   ·
    refine T.skip ?_
    refine T.seq ?_
    refine T.block ?_
    refine T.seq ?_
    refine T.region ?_
    refine LW.q rfl (Qt.index _ (e := 79) (sz := 1) (by kernel_rfl) rfl rfl rfl (by omega)) ?_
    refine LW.q rfl (Qt.load (v := ifW gl) (by kernel_rfl) rfl rfl) ?_
    refine LW.q rfl (Qt.assign rfl) ?_
    refine LW.done ?_
    refine T.region ?_
    refine LW.q rfl (Qt.move rfl) ?_
    refine LW.q rfl (Qt.move rfl) ?_
    refine LW.e rfl (Ef.callI (vs := [.int .i64 mark]) (Wl.forceNo B gl b W mark (by omega) hm) Tryd.func105 rfl rfl rfl (fun w => by kernel_rfl) rfl ?_)
    rintro _ _ ⟨rfl, rfl⟩
    try simp only [List.cons_append, List.nil_append]
    refine LW.done ?_
    refine T.region ?_
    refine LW.q rfl (Qt.add rfl rfl (wr64 (by omega) (by omega))) ?_
    refine LW.q rfl (Qt.move rfl) ?_
    refine LW.done ?_
    refine ⟨_, ?_, _, ⟨_, 1, W, D, ⟨Nat.le_refl _, fun h => by omega, fun _ => by unfold forceP; rw [if_pos hm]; exact ⟨rfl, rfl⟩⟩, rfl, (updS rfl (updS rfl (updS rfl (updS rfl rfl)))), rfl⟩, Sub.any⟩
    first | omega | (simp; omega)
   ·
    refine T.skip ?_
    refine T.seq ?_
    refine T.block ?_
    refine T.seq ?_
    refine T.region ?_
    refine LW.q rfl (Qt.index _ (e := 79) (sz := 1) (by kernel_rfl) rfl rfl rfl (by omega)) ?_
    refine LW.q rfl (Qt.load (v := ifW gl) (by kernel_rfl) rfl rfl) ?_
    refine LW.q rfl (Qt.assign rfl) ?_
    refine LW.done ?_
    refine T.region ?_
    refine LW.q rfl (Qt.move rfl) ?_
    refine LW.q rfl (Qt.move rfl) ?_
    refine LW.e rfl (Ef.callI (vs := [.int .i64 mark]) (Wl.forceYes B gl b W D mark w1 w2 w3 w4 (by omega) (by omega)) Tryd.func105 rfl rfl rfl (fun w => by kernel_rfl) rfl ?_)
    rintro _ _ ⟨rfl, rfl⟩
    try simp only [List.cons_append, List.nil_append]
    refine LW.done ?_
    refine T.region ?_
    refine LW.q rfl (Qt.add rfl rfl (wr64 (by omega) (by omega))) ?_
    refine LW.q rfl (Qt.move rfl) ?_
    refine LW.done ?_
    refine ⟨_, ?_, _, ⟨_, 1, W.flushed, flushE W D, ⟨Nat.le_refl _, fun h => by omega, fun _ => by unfold forceP; rw [if_neg hm]; exact ⟨rfl, rfl⟩⟩, rfl, (updS rfl (updS rfl (updS rfl (updS rfl rfl)))), rfl⟩, Sub.any⟩
    first | omega | (simp; omega)
  ·
   obtain rfl : k = 1 := by omega
   obtain ⟨e1, e2⟩ := hk1 rfl
   subst W2
   subst D2
   refine T.exit ?_
   exact ⟨.inr rfl, _, _, res [] rfl trivial, ⟨rfl, rfl⟩, Sub.any⟩

theorem flushE_pend (W : Wl) (D : DD) : (flushE W D).pend.length ≤ D.pend.length := by
  unfold flushE flushD
  split
  · exact Nat.le_refl _
  · simp [DD.sync]
theorem WOk.force {W : Wl} {D : DD} (h : WOk W D) (ho : D.Ok) (mark : Int) (hp : D.pend.length + 16384 < 2 ^ 32) : WOk (forceP W D mark).1 (forceP W D mark).2 ∧ (forceP W D mark).2.Ok ∧ (forceP W D mark).2.secs.length = D.secs.length ∧ (forceP W D mark).2.pend.length ≤ D.pend.length ∧ (forceP W D mark).1.first = W.first ∧ (forceP W D mark).1.count = W.count ∧ (forceP W D mark).1.st = W.st := by
  unfold forceP
  split
  · exact ⟨h, ho, rfl, Nat.le_refl _, rfl, rfl, rfl⟩
  · have hl : (flushE W D).Ok ∧ (flushE W D).secs.length = D.secs.length := by
      unfold flushE
      split
      · exact ⟨ho, rfl⟩
      · rename_i hne
        have hfit : W.first + (W.dur / 256 + flushN W) ≤ D.secs.length := by
          have := h.fit; have := h.st; have := h.dur
          unfold flushN
          omega
        have h1 := lays_ok (W := W) (k := flushN W) (n := W.dur / 256) ho hfit
        exact ⟨h1.1.sy, (DD.sync_len h1.1).trans h1.2⟩
    exact ⟨⟨by rw [hl.2]; exact h.fit, by rw [hl.2]; exact h.max, h.st, Nat.le_refl _, by have := flushE_pend W D; have := h.room; show (flushE W D).pend.length + 16384 < 2 ^ 32; omega⟩, hl.1, hl.2, flushE_pend W D, rfl, rfl, rfl⟩

theorem clock_len : ∀ {f : Nat} {A A' : List Fa} {h i h' : Nat}, clockA f A h = some (i, A', h') → A'.length = A.length ∧ i < A.length
  | 0, _, _, _, _, _, e => by cases e
  | f + 1, A, A', h, i, h', e => by
    unfold clockA at e
    split at e
    · cases e
    · rename_i x hx
      split at e
      · exact clock_len e
      · split at e
        · have := clock_len e; simpa using this
        · simp only [Option.some.injEq, Prod.mk.injEq] at e
          obtain ⟨rfl, rfl, _⟩ := e
          exact ⟨rfl, (List.getElem?_eq_some_iff.1 hx).1⟩

theorem map_a_at {Fs : List Fm} {A : List Fa} (h : Fs.map Fm.a = A) {i : Nat} {x : Fm} (hx : Fs[i]? = some x) : A[i]? = some x.a := by rw [← h, List.getElem?_map, hx]; rfl
theorem map_a_back {Fs : List Fm} {A : List Fa} (h : Fs.map Fm.a = A) {i : Nat} {y : Fa} (hx : A[i]? = some y) : ∃ x, Fs[i]? = some x ∧ x.a = y := by
  rw [← h, List.getElem?_map] at hx
  cases hf : Fs[i]? with
  | none => rw [hf] at hx; cases hx
  | some x => rw [hf] at hx; exact ⟨x, rfl, by simpa using hx⟩
theorem daA_cells {Fs : List Fm} {i : Nat} {x : Fm} (h : Fs[i]? = some x) {g : Nat} (hp : x.p = some ⟨g, 0, none⟩) (h0 : 0 < x.b.length) (k : Piece) (H : daA Fs k) : ∃ C t fr, k g = some (.cells C t fr) ∧ ∀ j v, (bytesV x.b)[j]? = some v → C[0 + j]? = some v := by
  obtain ⟨e1, e2⟩ := daA_at h H
  rcases e2 with ⟨_, e2⟩ | ⟨g', cap, cur, q1, q2, q3, q4, q5, q6⟩
  · omega
  · rw [hp] at q1
    injection q1 with q1 _ _
    injection q1 with q1
    injection q1 with q1
    subst q1
    refine ⟨_, _, _, q2, fun j v hv => ?_⟩
    rw [Nat.zero_add, ← Array.getElem?_toList]
    have hj : j < (bytesV x.b).length := (List.getElem?_eq_some_iff.1 hv).1
    rw [← q6, List.getElem?_take] at hv
    split at hv
    · exact hv
    · cases hv

theorem clock_succ {f : Nat} {A : List Fa} {h : Nat} {r : Nat × List Fa × Nat} (e : clockA f A h = some r) : ∃ f', f = f' + 1 := by
  cases f with
  | zero => cases e
  | succ f' => exact ⟨f', rfl⟩
theorem fm_unuse {Fs : List Fm} {h j : Nat} {y z : Fm} (hy : Fs[h]? = some y) (hz : (Fs.set h { y with used := false })[j]? = some z) : ∃ z', Fs[j]? = some z' ∧ z.page = z'.page ∧ z.b = z'.b ∧ z.p = z'.p := by
  rw [List.getElem?_set] at hz
  split at hz
  · rename_i e; subst e; rw [if_pos (List.getElem?_eq_some_iff.1 hy).1] at hz; simp at hz; subst hz; exact ⟨y, hy, rfl, rfl, rfl⟩
  · exact ⟨z, hz, rfl, rfl, rfl⟩
set_option maxHeartbeats 4000000 in
set_option maxRecDepth 100000 in
theorem Bp.victim_clock (B : Base) (g b gf n first count hand : Nat) (gp cl gl : Nat) (W : Wl) (D : DD) (Fs : List Fm) (hn : Fs.length = n) (hn2 : n ≤ 4096) (hh : hand < n)
  (hfr : ∀ (j : Nat) (x : Fm), Fs[j]? = some x → 0 ≤ x.page ∧ x.page < count ∧ x.b.length = 256) (hpt : ∀ (i : Nat) (x : Fm), Fs[i]? = some x → 0 < x.b.length → ∃ g, x.p = some ⟨g, 0, none⟩)
  (hun : (Fs.all fun x => decide (0 < x.pins)) = false) (hw : WOk W D) (ho : D.Ok) (hsec : first + count ≤ D.secs.length) (i h' : Nat) (A' : List Fa) (x' : Fa) (hc : clockA (2 * n + 1) (Fs.map Fm.a) hand = some (i, A', h')) (hx' : A'[i]? = some x') :
  Fn Tryd.prog B 35 #[.pointer (some ⟨g, 0, none⟩)] [poolB g b gf n first count hand (some ⟨gp, 0, none⟩) 1 cl, fmR gf n Fs, lgR (some ⟨gp, 0, none⟩) 1 cl [ifW gl], wlA gl b W, dskA b D, daA Fs]
   (fun u l => ∃ Fs', Fs'.map Fm.a = A' ∧ Fs'.length = n ∧ u = .pointer (some ⟨gf, 0 + i * 6, none⟩) ∧ l = [poolB g b gf n first count h' (some ⟨gp, 0, none⟩) 1 cl, fmR gf n Fs', lgR (some ⟨gp, 0, none⟩) 1 cl [ifW gl], wlA gl b (giveP first W D x').1, dskA b (giveP first W D x').2, daA Fs']) := by
 have hn0 : 0 < n := by omega
 refine Fn.enter1 105 Tryd.func35 rfl rfl (Nat.le_of_ble_eq_true rfl) (fun F => ?_)
 try simp only [List.cons_append, List.nil_append]
 refine T.seq ?_
 refine T.region ?_
 refine LW.q rfl (Qt.assign rfl) ?_
 refine LW.done ?_
 refine T.seq ?_
 refine T.region ?_
 refine LW.q rfl (Qt.assign rfl) ?_
 refine LW.done ?_
 refine T.seq ?_
 refine T.seq ?_
 refine T.region ?_
 refine LW.q rfl (Qt.move rfl) ?_
 refine LW.q rfl (Qt.nilCheck rfl) ?_
 refine LW.q rfl (Qt.fieldAddr (off := 3) (by kernel_rfl) rfl) ?_
 first | refine LW.q rfl (Qt.load (by kernel_rfl) rfl rfl) ?_ | refine LW.q rfl (Qt.load (by kernel_rfl) rfl (map_at _ _ _ (by omega))) ?_ | refine LW.q rfl (Qt.load (by kernel_rfl) rfl (flat_cell0 _ _ _ (by intros; rfl) _ (by omega) (by rfl))) ?_ | refine LW.q rfl (Qt.load (by kernel_rfl) rfl (flat_cell _ _ _ (by intros; rfl) _ _ (by omega) (by rfl))) ?_ | refine LW.q rfl (Qt.load (by kernel_rfl) rfl (bytes_at _ _ (by omega))) ?_
 refine LW.q rfl (Qt.len (e := 81) (sz := 6) (by kernel_rfl) rfl) ?_
 refine LW.q rfl (Qt.move rfl) ?_
 refine LW.done ?_
 refine T.block ?_
 refine T.loop (fun mz fz lz => ∃ (f0 : Fr) (k : Nat) (fb : Bool), (k ≤ n ∧ fb = (Fs.take k).all fun x => decide (0 < x.pins)) ∧ mz = n - k ∧ fz = (upd (upd (upd (upd f0 0 (.pointer (some ⟨g, 0, none⟩))) 3 (.bool fb)) 11 (.int .i64 n)) 12 (.int .i64 k)) ∧ lz = poolB g b gf n first count hand (some ⟨gp, 0, none⟩) 1 cl :: fmR gf n Fs :: lgR (some ⟨gp, 0, none⟩) 1 cl [ifW gl] :: wlA gl b W :: dskA b D :: daA Fs :: F) ?_ ?_
 · refine ⟨_, _, ⟨_, 0, true, ⟨Nat.zero_le _, rfl⟩, rfl, (updS rfl (updS rfl (updS rfl (updS rfl rfl)))), rfl⟩, Sub.any⟩
 ·
  rintro mz fz lz ⟨f0, k, fb, ⟨hk, hfb⟩, hmz, rfl, rfl⟩
  subst mz
  try simp only [List.cons_append, List.nil_append]
  refine T.seq ?_
  refine T.region ?_
  refine LW.q rfl (Qt.lss rfl rfl) ?_
  refine LW.done ?_
  refine T.seq ?_
  refine T.condP rfl (fun hlt => ?_) (fun hlt => ?_)
  ·
   obtain ⟨y, hy⟩ : ∃ y, Fs[k]? = some y := ⟨_, List.getElem?_eq_getElem (by omega)⟩
   have hpos := (hfr k y hy).1
   refine T.skip ?_
   refine T.seq ?_
   refine T.block ?_
   refine T.seq ?_
   refine T.region ?_
   refine LW.q rfl (Qt.move rfl) ?_
   refine LW.q rfl (Qt.assign rfl) ?_
   refine LW.done ?_
   refine T.seq ?_
   refine T.region ?_
   refine LW.q rfl (Qt.move rfl) ?_
   refine LW.q rfl (Qt.nilCheck rfl) ?_
   refine LW.q rfl (Qt.fieldAddr (off := 3) (by kernel_rfl) rfl) ?_
   first | refine LW.q rfl (Qt.load (by kernel_rfl) rfl rfl) ?_ | refine LW.q rfl (Qt.load (by kernel_rfl) rfl (map_at _ _ _ (by omega))) ?_ | refine LW.q rfl (Qt.load (by kernel_rfl) rfl (flat_cell0 _ _ _ (by intros; rfl) _ (by omega) (by rfl))) ?_ | refine LW.q rfl (Qt.load (by kernel_rfl) rfl (flat_cell _ _ _ (by intros; rfl) _ _ (by omega) (by rfl))) ?_ | refine LW.q rfl (Qt.load (by kernel_rfl) rfl (bytes_at _ _ (by omega))) ?_
   refine LW.q rfl (Qt.move rfl) ?_
   refine LW.q rfl (Qt.index _ (e := 81) (sz := 6) (by kernel_rfl) rfl rfl rfl (by omega)) ?_
   refine LW.q rfl (Qt.assign rfl) ?_
   refine LW.done ?_
   refine T.seq ?_
   refine T.seq ?_
   refine T.region ?_
   refine LW.q rfl (Qt.move rfl) ?_
   refine LW.q rfl (Qt.nilCheck rfl) ?_
   refine LW.q rfl (Qt.fieldAddr0 (by kernel_rfl) rfl) ?_
   refine LW.q rfl (Qt.load (v := .int .i64 y.page) (by kernel_rfl) rfl (fm_at hy 0 (by omega))) ?_
   refine LW.q rfl (Qt.lss rfl rfl) ?_
   refine LW.done ?_
   first | refine T.condF rfl ?_ | refine T.condPF rfl (by omega) ?_ | refine T.condBF rfl (by omega) ?_
   refine T.skip ?_
   refine T.region ?_
   refine LW.q rfl (Qt.move rfl) ?_
   refine LW.q rfl (Qt.move rfl) ?_
   refine LW.split (t := 28) rfl (fun hb => ?_) (fun hb => ?_)
   ·
    try replace hb := of_decide_eq_true hb
    refine LW.q rfl (Qt.move rfl) ?_
    refine LW.q rfl (Qt.nilCheck rfl) ?_
    refine LW.q rfl (Qt.fieldAddr (off := 3) (by kernel_rfl) rfl) ?_
    refine LW.q rfl (Qt.load (v := .int .i64 y.pins) (by kernel_rfl) rfl (fm_at hy 3 (by omega))) ?_
    refine LW.q rfl (Qt.gtr rfl rfl) ?_
    refine LW.q rfl (Qt.pick rfl rfl) ?_
    refine LW.q rfl (Qt.assign rfl) ?_
    refine LW.done ?_
    refine T.region ?_
    refine LW.q rfl (Qt.add rfl rfl (wr64 (by omega) (by omega))) ?_
    refine LW.q rfl (Qt.move rfl) ?_
    refine LW.done ?_
    refine ⟨_, ?_, _, ⟨_, k + 1, _, ⟨by omega, by rw [List.take_add_one, hy, List.all_append, ← hfb, hb]; simp⟩, rfl, (updS rfl (updS rfl (updS rfl (updS rfl rfl)))), rfl⟩, Sub.any⟩
    first | omega | (simp; omega)
   ·
    try replace hb := of_decide_eq_false hb
    refine LW.s rfl ?_
    refine LW.s rfl ?_
    refine LW.s rfl ?_
    refine LW.s rfl ?_
    refine LW.s rfl ?_
    refine LW.q rfl (Qt.pick rfl rfl) ?_
    refine LW.q rfl (Qt.assign rfl) ?_
    refine LW.done ?_
    refine T.region ?_
    refine LW.q rfl (Qt.add rfl rfl (wr64 (by omega) (by omega))) ?_
    refine LW.q rfl (Qt.move rfl) ?_
    refine LW.done ?_
    refine ⟨_, ?_, _, ⟨_, k + 1, _, ⟨by omega, by rw [List.take_add_one, hy, List.all_append, ← hfb, hb]; simp⟩, rfl, (updS rfl (updS rfl (updS rfl (updS rfl rfl)))), rfl⟩, Sub.any⟩
    first | omega | (simp; omega)
  ·
   obtain rfl : n = k := by omega
   rw [← hn, List.take_length, hun] at hfb
   subst hfb
   refine T.exit ?_
   refine T.seq ?_
   refine T.seq ?_
   refine T.region ?_
   refine LW.q rfl (Qt.move rfl) ?_
   refine LW.done ?_
   first | refine T.condF rfl ?_ | refine T.condPF rfl (by omega) ?_ | refine T.condBF rfl (by omega) ?_
   clear hlt hk
   refine T.skip ?_
   refine T.block ?_
   refine T.loop (fun mz fz lz => ∃ (f0 : Fr) (fu : Nat) (Fs2 : List Fm) (h2 : Nat), (Fs2.length = n ∧ h2 < n ∧ clockA fu (Fs2.map Fm.a) h2 = some (i, A', h') ∧ (∀ (j : Nat) (x : Fm), Fs2[j]? = some x → 0 ≤ x.page ∧ x.page < count ∧ x.b.length = 256) ∧ (∀ (i : Nat) (x : Fm), Fs2[i]? = some x → 0 < x.b.length → ∃ g, x.p = some ⟨g, 0, none⟩)) ∧ mz = fu ∧ fz = (upd f0 0 (.pointer (some ⟨g, 0, none⟩))) ∧ lz = poolB g b gf n first count h2 (some ⟨gp, 0, none⟩) 1 cl :: fmR gf n Fs2 :: lgR (some ⟨gp, 0, none⟩) 1 cl [ifW gl] :: wlA gl b W :: dskA b D :: daA Fs2 :: F) ?_ ?_
   · refine ⟨_, _, ⟨_, 2 * n + 1, Fs, hand, ⟨hn, hh, hc, hfr, hpt⟩, rfl, (updS rfl rfl), rfl⟩, Sub.any⟩
   ·
    rintro mz fz lz ⟨f0, fu, Fs2, h2, ⟨hl2, hh2, hc2, hfr2, hpt2⟩, hmz, rfl, rfl⟩
    subst mz
    try simp only [List.cons_append, List.nil_append]
    obtain ⟨y, hy⟩ : ∃ y, Fs2[h2]? = some y := ⟨_, List.getElem?_eq_getElem (by omega)⟩
    obtain ⟨y1, y2, y3⟩ := hfr2 h2 y hy
    obtain ⟨fu', rfl⟩ := clock_succ hc2
    have hstep := hc2
    unfold clockA at hstep
    rw [map_a_at rfl hy] at hstep
    dsimp only at hstep
    rw [List.length_map, hl2] at hstep
    have hmod : (h2 + 1) % n < n := Nat.mod_lt _ hn0
    refine T.block ?_
    refine T.seq ?_
    refine T.drawAll 9 (by kernel_rfl) (Nat.le_of_ble_eq_true rfl) (by kernel_rfl) ?_
    refine RW.q 0 rfl rfl (by kernel_rfl) (Sub.refl _) (Qt.move rfl) ?_
    refine RW.q 1 rfl rfl (by kernel_rfl) (Sub.refl _) (Qt.nilCheck rfl) ?_
    refine RW.q 2 rfl rfl (by kernel_rfl) (Sub.refl _) (Qt.fieldAddr (off := 3) (by kernel_rfl) rfl) ?_
    first | refine RW.q 3 rfl rfl (by kernel_rfl) (Sub.refl _) (Qt.load (by kernel_rfl) rfl rfl) ?_ | refine RW.q 3 rfl rfl (by kernel_rfl) (Sub.refl _) (Qt.load (by kernel_rfl) rfl (map_at _ _ _ (by omega))) ?_ | refine RW.q 3 rfl rfl (by kernel_rfl) (Sub.refl _) (Qt.load (by kernel_rfl) rfl (flat_cell0 _ _ _ (by intros; rfl) _ (by omega) (by rfl))) ?_ | refine RW.q 3 rfl rfl (by kernel_rfl) (Sub.refl _) (Qt.load (by kernel_rfl) rfl (flat_cell _ _ _ (by intros; rfl) _ _ (by omega) (by rfl))) ?_ | refine RW.q 3 rfl rfl (by kernel_rfl) (Sub.refl _) (Qt.load (by kernel_rfl) rfl (bytes_at _ _ (by omega))) ?_
    refine RW.q 4 rfl rfl (by kernel_rfl) (Sub.refl _) (Qt.move rfl) ?_
    refine RW.q 5 rfl rfl (by kernel_rfl) (Sub.refl _) (Qt.nilCheck rfl) ?_
    refine RW.q 6 rfl rfl (by kernel_rfl) (Sub.refl _) (Qt.fieldAddr (off := 4) (by kernel_rfl) rfl) ?_
    first | refine RW.q 7 rfl rfl (by kernel_rfl) (Sub.refl _) (Qt.load (by kernel_rfl) rfl rfl) ?_ | refine RW.q 7 rfl rfl (by kernel_rfl) (Sub.refl _) (Qt.load (by kernel_rfl) rfl (map_at _ _ _ (by omega))) ?_ | refine RW.q 7 rfl rfl (by kernel_rfl) (Sub.refl _) (Qt.load (by kernel_rfl) rfl (flat_cell0 _ _ _ (by intros; rfl) _ (by omega) (by rfl))) ?_ | refine RW.q 7 rfl rfl (by kernel_rfl) (Sub.refl _) (Qt.load (by kernel_rfl) rfl (flat_cell _ _ _ (by intros; rfl) _ _ (by omega) (by rfl))) ?_ | refine RW.q 7 rfl rfl (by kernel_rfl) (Sub.refl _) (Qt.load (by kernel_rfl) rfl (bytes_at _ _ (by omega))) ?_
    refine RW.q 8 rfl rfl (by kernel_rfl) (Sub.refl _) (Qt.index _ (e := 81) (sz := 6) (by kernel_rfl) rfl rfl rfl (by omega)) ?_
    refine RW.done (by rfl) ?_
    simp only [List.drop_succ_cons, List.drop_zero, List.drop_nil]
    refine LW.q rfl (Qt.assign rfl) ?_
    refine LW.done ?_
    refine T.seq ?_
    refine T.drawAll 12 (by kernel_rfl) (Nat.le_of_ble_eq_true rfl) (by kernel_rfl) ?_
    refine RW.q 0 rfl rfl (by kernel_rfl) (Sub.refl _) (Qt.move rfl) ?_
    refine RW.q 1 rfl rfl (by kernel_rfl) (Sub.refl _) (Qt.move rfl) ?_
    refine RW.q 2 rfl rfl (by kernel_rfl) (Sub.refl _) (Qt.nilCheck rfl) ?_
    refine RW.q 3 rfl rfl (by kernel_rfl) (Sub.refl _) (Qt.fieldAddr (off := 4) (by kernel_rfl) rfl) ?_
    first | refine RW.q 4 rfl rfl (by kernel_rfl) (Sub.refl _) (Qt.load (by kernel_rfl) rfl rfl) ?_ | refine RW.q 4 rfl rfl (by kernel_rfl) (Sub.refl _) (Qt.load (by kernel_rfl) rfl (map_at _ _ _ (by omega))) ?_ | refine RW.q 4 rfl rfl (by kernel_rfl) (Sub.refl _) (Qt.load (by kernel_rfl) rfl (flat_cell0 _ _ _ (by intros; rfl) _ (by omega) (by rfl))) ?_ | refine RW.q 4 rfl rfl (by kernel_rfl) (Sub.refl _) (Qt.load (by kernel_rfl) rfl (flat_cell _ _ _ (by intros; rfl) _ _ (by omega) (by rfl))) ?_ | refine RW.q 4 rfl rfl (by kernel_rfl) (Sub.refl _) (Qt.load (by kernel_rfl) rfl (bytes_at _ _ (by omega))) ?_
    refine RW.q 5 rfl rfl (by kernel_rfl) (Sub.refl _) (Qt.add rfl rfl (wr64 (by omega) (by omega))) ?_
    refine RW.q 6 rfl rfl (by kernel_rfl) (Sub.refl _) (Qt.move rfl) ?_
    refine RW.q 7 rfl rfl (by kernel_rfl) (Sub.refl _) (Qt.nilCheck rfl) ?_
    refine RW.q 8 rfl rfl (by kernel_rfl) (Sub.refl _) (Qt.fieldAddr (off := 3) (by kernel_rfl) rfl) ?_
    first | refine RW.q 9 rfl rfl (by kernel_rfl) (Sub.refl _) (Qt.load (by kernel_rfl) rfl rfl) ?_ | refine RW.q 9 rfl rfl (by kernel_rfl) (Sub.refl _) (Qt.load (by kernel_rfl) rfl (map_at _ _ _ (by omega))) ?_ | refine RW.q 9 rfl rfl (by kernel_rfl) (Sub.refl _) (Qt.load (by kernel_rfl) rfl (flat_cell0 _ _ _ (by intros; rfl) _ (by omega) (by rfl))) ?_ | refine RW.q 9 rfl rfl (by kernel_rfl) (Sub.refl _) (Qt.load (by kernel_rfl) rfl (flat_cell _ _ _ (by intros; rfl) _ _ (by omega) (by rfl))) ?_ | refine RW.q 9 rfl rfl (by kernel_rfl) (Sub.refl _) (Qt.load (by kernel_rfl) rfl (bytes_at _ _ (by omega))) ?_
    refine RW.q 10 rfl rfl (by kernel_rfl) (Sub.refl _) (Qt.len (e := 81) (sz := 6) (by kernel_rfl) rfl) ?_
    refine RW.q 11 rfl rfl (by kernel_rfl) (Sub.refl _) (Qt.rem rfl rfl (by omega) (show ((h2 : Int) + 1).tmod (n : Int) = (((h2 + 1) % n : Nat) : Int) by rw [Int.tmod_eq_emod_of_nonneg (by omega)]; norm_cast)) ?_
    refine RW.done (by rfl) ?_
    simp only [List.drop_succ_cons, List.drop_zero, List.drop_nil]
    refine LW.q rfl (Qt.nilCheck rfl) ?_
    refine LW.q rfl (Qt.fieldAddr (off := 4) (by kernel_rfl) rfl) ?_
    refine LW.e0 rfl (Ef.store1 (by kernel_rfl) rfl rfl rfl (by first | (simp; done) | (simp; omega)) ?_)
    try simp only [List.set_cons_zero, List.set_cons_succ]
    refine LW.done ?_
    refine T.block ?_
    refine T.seq ?_
    refine T.region ?_
    refine LW.q rfl (Qt.move rfl) ?_
    refine LW.q rfl (Qt.nilCheck rfl) ?_
    refine LW.q rfl (Qt.fieldAddr (off := 3) (by kernel_rfl) rfl) ?_
    refine LW.q rfl (Qt.load (v := .int .i64 y.pins) (by kernel_rfl) rfl (fm_at hy 3 (by omega))) ?_
    refine LW.q rfl (Qt.gtr rfl rfl) ?_
    refine LW.q rfl (Qt.assign rfl) ?_
    refine LW.done ?_
    refine T.condP rfl (fun hpin => ?_) (fun hpin => ?_)
    ·
     rw [if_pos (show 0 < y.a.pins from hpin)] at hstep
     refine T.skip ?_
     refine ⟨_, ?_, _, ⟨_, fu', Fs2, (h2 + 1) % n, ⟨hl2, hmod, hstep, hfr2, hpt2⟩, rfl, (updS rfl rfl), rfl⟩, Sub.any⟩
     first | omega | (simp; omega)
    ·
     rw [if_neg (show ¬ 0 < y.a.pins from hpin)] at hstep
     refine T.seq ?_
     refine T.region ?_
     refine LW.q rfl (Qt.move rfl) ?_
     refine LW.q rfl (Qt.nilCheck rfl) ?_
     refine LW.q rfl (Qt.fieldAddr (off := 5) (by kernel_rfl) rfl) ?_
     refine LW.q rfl (Qt.load (v := .bool y.used) (by kernel_rfl) rfl (fm_at hy 5 (by omega))) ?_
     refine LW.q rfl (Qt.assign rfl) ?_
     refine LW.done ?_
     refine T.cond rfl (fun hu => ?_) (fun hu => ?_)
     ·
      have hfl := fm_len Fs2
      rw [if_pos (show y.a.used = true from hu)] at hstep
      have hmem := fun j z => fm_unuse (Fs := Fs2) (j := j) (z := z) hy
      refine T.region ?_
      refine LW.q rfl (Qt.move rfl) ?_
      refine LW.q rfl (Qt.nilCheck rfl) ?_
      refine LW.q rfl (Qt.fieldAddr (off := 5) (by kernel_rfl) rfl) ?_
      refine LW.e0 rfl (Ef.store1 (by kernel_rfl) rfl rfl rfl (by omega) ?_)
      rw [fm_set (y := { y with used := false }) hy 5 (by omega) _ rfl, ← da_same (y := { y with used := false }) hy rfl rfl rfl]
      refine LW.done ?_
      refine ⟨_, ?_, _, ⟨_, fu', Fs2.set h2 { y with used := false }, (h2 + 1) % n, ⟨by rw [List.length_set]; exact hl2, hmod, by rw [List.map_set]; exact hstep, fun j z hz => by obtain ⟨z', q1, q2, q3, q4⟩ := hmem j z hz; rw [q2, q3]; exact hfr2 j z' q1, fun j z hz => by obtain ⟨z', q1, q2, q3, q4⟩ := hmem j z hz; rw [q3, q4]; exact hpt2 j z' q1⟩, rfl, (updS rfl rfl), rfl⟩, Sub.any⟩
      first | omega | (simp; omega)
     ·
      rw [if_neg (show ¬ y.a.used = true by rw [show y.a.used = y.used from rfl, hu]; simp)] at hstep
      simp only [Option.some.injEq, Prod.mk.injEq] at hstep
      obtain ⟨rfl, rfl, rfl⟩ := hstep
      obtain rfl : y.a = x' := by rw [map_a_at rfl hy] at hx'; exact Option.some.inj hx'
      refine T.seq ?_
      refine T.seq ?_
      refine T.region ?_
      refine LW.q rfl (Qt.move rfl) ?_
      refine LW.q rfl (Qt.nilCheck rfl) ?_
      refine LW.q rfl (Qt.fieldAddr (off := 4) (by kernel_rfl) rfl) ?_
      refine LW.q rfl (Qt.load (v := .bool y.dirty) (by kernel_rfl) rfl (fm_at hy 4 (by omega))) ?_
      refine LW.done ?_
      refine T.cond rfl (fun hd => ?_) (fun hd => ?_)
      ·
       obtain ⟨gx, hgx⟩ := hpt2 h2 y hy (by omega)
       obtain ⟨f1, f2, f3, f4, f5, f6, f7⟩ := hw.force ho y.mark hw.room
       have hroom := hw.room
       have hwmx := hw.max
       refine T.seq ?_
       refine T.region ?_
       refine LW.q rfl (Qt.move rfl) ?_
       refine LW.q rfl (Qt.move rfl) ?_
       refine LW.q rfl (Qt.nilCheck rfl) ?_
       refine LW.q rfl (Qt.fieldAddr (off := 2) (by kernel_rfl) rfl) ?_
       refine LW.q rfl (Qt.load (v := .int .i64 y.mark) (by kernel_rfl) rfl (fm_at hy 2 (by omega))) ?_
       refine LW.e rfl (Ef.call (Bp.force B g b gf n first count ((h2 + 1) % n) gp cl gl W D y.mark hw) Tryd.func41 rfl rfl rfl ?_)
       rintro _ _ ⟨rfl, rfl⟩
       try simp only [List.cons_append, List.nil_append]
       refine LW.done ?_
       refine T.draw 20 ([poolB g b gf n first count ((h2 + 1) % n) (some ⟨gp, 0, none⟩) 1 cl, fmR gf n Fs2]) (by kernel_rfl) (Nat.le_of_ble_eq_true rfl) (by kernel_rfl) ?_
       refine RW.q 0 rfl rfl (by kernel_rfl) Sub.any (Qt.move rfl) ?_
       refine RW.q 1 rfl rfl (by kernel_rfl) Sub.any (Qt.nilCheck rfl) ?_
       refine RW.q 2 rfl rfl (by kernel_rfl) Sub.any (Qt.fieldAddr0 (by kernel_rfl) rfl) ?_
       refine RW.q 3 rfl rfl (by kernel_rfl) Sub.any (Qt.fieldAddr0 (by kernel_rfl) rfl) ?_
       first | refine RW.q 4 rfl rfl (by kernel_rfl) Sub.any (Qt.load (by kernel_rfl) rfl rfl) ?_ | refine RW.q 4 rfl rfl (by kernel_rfl) Sub.any (Qt.load (by kernel_rfl) rfl (map_at _ _ _ (by omega))) ?_ | refine RW.q 4 rfl rfl (by kernel_rfl) Sub.any (Qt.load (by kernel_rfl) rfl (flat_cell0 _ _ _ (by intros; rfl) _ (by omega) (by rfl))) ?_ | refine RW.q 4 rfl rfl (by kernel_rfl) Sub.any (Qt.load (by kernel_rfl) rfl (flat_cell _ _ _ (by intros; rfl) _ _ (by omega) (by rfl))) ?_ | refine RW.q 4 rfl rfl (by kernel_rfl) Sub.any (Qt.load (by kernel_rfl) rfl (bytes_at _ _ (by omega))) ?_
       refine RW.q 5 rfl rfl (by kernel_rfl) Sub.any (Qt.move rfl) ?_
       refine RW.q 6 rfl rfl (by kernel_rfl) Sub.any (Qt.nilCheck rfl) ?_
       refine RW.q 7 rfl rfl (by kernel_rfl) Sub.any (Qt.fieldAddr0 (by kernel_rfl) rfl) ?_
       refine RW.q 8 rfl rfl (by kernel_rfl) Sub.any (Qt.fieldAddr (off := 1) (by kernel_rfl) rfl) ?_
       first | refine RW.q 9 rfl rfl (by kernel_rfl) Sub.any (Qt.load (by kernel_rfl) rfl rfl) ?_ | refine RW.q 9 rfl rfl (by kernel_rfl) Sub.any (Qt.load (by kernel_rfl) rfl (map_at _ _ _ (by omega))) ?_ | refine RW.q 9 rfl rfl (by kernel_rfl) Sub.any (Qt.load (by kernel_rfl) rfl (flat_cell0 _ _ _ (by intros; rfl) _ (by omega) (by rfl))) ?_ | refine RW.q 9 rfl rfl (by kernel_rfl) Sub.any (Qt.load (by kernel_rfl) rfl (flat_cell _ _ _ (by intros; rfl) _ _ (by omega) (by rfl))) ?_ | refine RW.q 9 rfl rfl (by kernel_rfl) Sub.any (Qt.load (by kernel_rfl) rfl (bytes_at _ _ (by omega))) ?_
       refine RW.q 10 rfl rfl (by kernel_rfl) Sub.any (Qt.move rfl) ?_
       refine RW.q 11 rfl rfl (by kernel_rfl) Sub.any (Qt.nilCheck rfl) ?_
       refine RW.q 12 rfl rfl (by kernel_rfl) Sub.any (Qt.fieldAddr0 (by kernel_rfl) rfl) ?_
       refine RW.q 13 rfl rfl (by kernel_rfl) Sub.any (Qt.load (v := .int .i64 y.page) (by kernel_rfl) rfl (fm_at hy 0 (by omega))) ?_
       refine RW.q 14 rfl rfl (by kernel_rfl) Sub.any (Qt.add rfl rfl (wr64 (by omega) (by omega))) ?_
       refine RW.q 15 rfl rfl (by kernel_rfl) Sub.any (Qt.move rfl) ?_
       refine RW.q 16 rfl rfl (by kernel_rfl) Sub.any (Qt.nilCheck rfl) ?_
       refine RW.q 17 rfl rfl (by kernel_rfl) Sub.any (Qt.fieldAddr (off := 1) (by kernel_rfl) rfl) ?_
       refine RW.q 18 rfl rfl (by kernel_rfl) Sub.any (Qt.load (v := .slice (some ⟨gx, 0, none⟩) 256 y.c) (by kernel_rfl) rfl (by rw [fm_at hy 1 (by omega)]; simp [hgx, y3])) ?_
       refine RW.one 19 (by kernel_rfl) ?_
       refine RO.eS rfl rfl (Ef.call (Dk.writeF B b (forceP W D y.mark).2 (daA Fs2) gx 0 y.c (first + y.page.toNat) _ (by omega) y.b (fun h H => daA_cells hy hgx (by omega) h H) (by omega) y3 (by omega)) Tryd.func42 rfl rfl rfl ?_)
       rintro _ _ ⟨rfl, rfl⟩
       try simp only [List.cons_append, List.nil_append]
       refine ⟨Sub.any, ?_⟩
       refine RW.done (by rfl) ?_
       simp only [List.drop_succ_cons, List.drop_zero, List.drop_nil]
       refine LW.done ?_
       refine T.seq ?_
       refine T.region ?_
       refine LW.q rfl (Qt.move rfl) ?_
       refine LW.q rfl (Qt.assign rfl) ?_
       refine LW.done ?_
       rw [show giveP first W D y.a = ((forceP W D y.mark).1, (forceP W D y.mark).2.write (first + y.page.toNat) y.b) by unfold giveP; rw [if_pos (show y.a.dirty = true from hd)]; rfl]
       refine T.ret ?_
       exact ⟨.inl rfl, _, _, res [_] rfl ⟨rvT rfl, trivial⟩, ⟨Fs2, rfl, hl2, rfl, rfl⟩, Sub.any⟩
      ·
       rw [show giveP first W D y.a = (W, D) by unfold giveP; rw [if_neg (show ¬ y.a.dirty = true by rw [show y.a.dirty = y.dirty from rfl, hd]; simp)]]
       refine T.skip ?_
       refine T.seq ?_
       refine T.region ?_
       refine LW.q rfl (Qt.move rfl) ?_
       refine LW.q rfl (Qt.assign rfl) ?_
       refine LW.done ?_
       refine T.ret ?_
       exact ⟨.inl rfl, _, _, res [_] rfl ⟨rvT rfl, trivial⟩, ⟨Fs2, rfl, hl2, rfl, rfl⟩, Sub.any⟩
end Go.Proofs.YtegohgaccmkigaaDoor

/- The package buffer: the pool as a whole: Pages, Frames, Pin, Unpin, Bytes, Put. Conditions: sizes; the frames are in order. -/
set_option linter.unusedSimpArgs false
set_option linter.unusedVariables false
namespace Go.Proofs.YtegohgaccmkigaaDoor
open Go.RowKit

/-- A contract used where there is more. -/
theorem Fn.wide {P : Program} {B : Base} {g : FuncId} {args : Array Value} {pre l F : List Assn} {R R' : Value → List Assn → Prop} (h : Fn P B g args pre R) [k : TakeL pre l F] (hr : ∀ v l', R v l' → ∃ l2, Sub (l' ++ F) l2 ∧ R' v l2) : Fn P B g args l R' := ⟨fun w F0 ho => by
  have ho' : Own B w (pre ++ (F ++ F0)) := ho.map fun hh H => by
    obtain ⟨h1, h2, d, a, b, e1, e2⟩ := Has.split H
    rw [← List.append_assoc]
    exact Has.join d a b (k.take _ e1) e2
  refine (h.run w (F ++ F0) ho').mono ?_
  rintro _ w' ⟨v, l', rfl, hR, ho2⟩
  obtain ⟨l2, hs, hR'⟩ := hr v l' hR
  refine ⟨v, l2, rfl, hR', ho2.map fun hh H => ?_⟩
  rw [← List.append_assoc] at H
  obtain ⟨h1, h2, d, a, b, e1, e2⟩ := Has.split H
  exact Has.join d a b (hs _ e1) e2⟩

theorem Bp.pages (B : Base) (g b n first count hand gl : Nat) (A : List Fa) : Fn Tryd.prog B 12 #[.pointer (some ⟨g, 0, none⟩)] [plA g b n first count hand gl A] (fun u l => u = .int .i64 count ∧ l = [plA g b n first count hand gl A]) := by
  refine Fn.openPl fun q hA hp ⟨gp, hgp⟩ => ?_
  simp only [plC, List.append_nil]
  refine Fn.wide (Bf.pages B g b q.gf n first count hand q.pl 1 q.cl) ?_
  rintro v l' ⟨rfl, rfl⟩
  exact ⟨_, sub_pl (S := []) q hA, rfl, rfl⟩
theorem Bp.frames (B : Base) (g b n first count hand gl : Nat) (A : List Fa) (hA : A.length = n) (hn2 : n ≤ 4096) : Fn Tryd.prog B 13 #[.pointer (some ⟨g, 0, none⟩)] [plA g b n first count hand gl A] (fun u l => ∃ p c, u = .slice p n c ∧ l = [row (.slice p n c) 3 1 n (A.map fun x => Value.int .i64 x.page), plA g b n first count hand gl A]) := by
  refine Fn.openPl fun q hA2 hp ⟨gp, hgp⟩ => ?_
  simp only [plC, List.append_nil]
  have hl : q.Fs.length = n := by rw [← hA, ← hA2, List.length_map]
  refine Fn.wide (Bf.frames B g b q.gf n first count hand q.pl 1 q.cl q.Fs hl hn2) ?_
  rintro v l' ⟨p, c, rfl, rfl⟩
  refine ⟨_, fun h H => ?_, p, c, rfl, rfl⟩
  have : (A.map fun x => Value.int .i64 x.page) = q.Fs.map fun x => Value.int .i64 x.page := by rw [← hA2, List.map_map]; rfl
  rw [this]
  exact Has.cons_imp (sub_pl (S := []) q hA2) H

/-! where a page is -/
theorem findA_some {A : List Fa} {page : Int} {i : Nat} (h : findA A page = some i) : 0 ≤ page ∧ ∃ x, A[i]? = some x ∧ x.page = page ∧ ∀ (j : Nat), j < i → ∀ y : Fa, A[j]? = some y → y.page ≠ page := by
  unfold findA at h
  split at h
  · cases h
  · rename_i h0
    obtain ⟨hi, h1, h2⟩ := List.findIdx?_eq_some_iff_getElem.1 h
    refine ⟨by omega, A[i], List.getElem?_eq_getElem hi, of_decide_eq_true h1, fun j hj y hy => ?_⟩
    have hjl := (List.getElem?_eq_some_iff.1 hy).1
    have := h2 j hj
    rw [List.getElem?_eq_getElem hjl] at hy
    cases hy
    simpa using this
theorem findA_none {A : List Fa} {page : Int} (h : findA A page = none) (h0 : 0 ≤ page) : ∀ (j : Nat) (y : Fa), A[j]? = some y → y.page ≠ page := by
  unfold findA at h
  rw [if_neg (by omega)] at h
  intro j y hy
  have := List.findIdx?_eq_none_iff.1 h y (List.mem_of_getElem? hy)
  simpa using this
theorem fd_of {Fs : List Fm} {A : List Fa} (hA : Fs.map Fm.a = A) {page : Int} {i : Nat} (h : findA A page = some i) : ∃ x, Fd Fs page i x := by
  obtain ⟨h0, y, h1, h2, h3⟩ := findA_some h
  obtain ⟨x, e1, rfl⟩ := map_a_back hA h1
  exact ⟨x, e1, h2, h0, fun j hj z hz => h3 j hj z.a (map_a_at hA hz)⟩
theorem nofd_of {Fs : List Fm} {A : List Fa} (hA : Fs.map Fm.a = A) {page : Int} (h : findA A page = none) (h0 : 0 ≤ page) : ∀ (j : Nat) (y : Fm), Fs[j]? = some y → y.page ≠ page := fun j y hy => findA_none h h0 j y.a (map_a_at hA hy)

/-! what gives way -/
theorem mod_succ {h n : Nat} (hh : h < n) : (h + 1 = n ∧ (h + 1) % n = 0) ∨ (h + 1 < n ∧ (h + 1) % n = h + 1) := by
  by_cases e : h + 1 = n
  · exact .inl ⟨e, by rw [e, Nat.mod_self]⟩
  · exact .inr ⟨by omega, Nat.mod_eq_of_lt (by omega)⟩
/-- How far from h round to i. -/
def far (n h i : Nat) : Nat := if h ≤ i then i - h else n + i - h
theorem far_succ {n h i : Nat} (hh : h < n) (hi : i < n) (hne : h ≠ i) : far n ((h + 1) % n) i + 1 = far n h i := by
  unfold far
  rcases mod_succ hh with ⟨e1, e2⟩ | ⟨e1, e2⟩ <;> rw [e2] <;> split <;> split <;> omega
theorem far_self {n h : Nat} (hh : h < n) : far n ((h + 1) % n) h < n := by
  unfold far
  rcases mod_succ hh with ⟨e1, e2⟩ | ⟨e1, e2⟩ <;> rw [e2] <;> split <;> omega
theorem clock_go : ∀ {f : Nat} {A : List Fa} {h i : Nat} {x : Fa}, A[i]? = some x → ¬ 0 < x.pins → h < A.length →
    far A.length h i + (if x.used = true then A.length else 0) < f → ∃ r, clockA f A h = some r
  | 0, _, _, _, _, _, _, _, hf => by omega
  | f + 1, A, h, i, x, hi, hx, hh, hf => by
    have hil := (List.getElem?_eq_some_iff.1 hi).1
    unfold clockA
    rw [List.getElem?_eq_getElem hh]
    dsimp only
    split
    · rename_i hp
      have hne : h ≠ i := fun e => by subst e; rw [List.getElem?_eq_getElem hh] at hi; cases hi; exact hx hp
      refine clock_go hi hx (Nat.mod_lt _ (by omega)) ?_
      have := far_succ hh hil hne
      omega
    · split
      · rename_i hp hu
        by_cases hne : h = i
        · subst hne
          rw [List.getElem?_eq_getElem hh] at hi
          cases hi
          refine clock_go (i := h) (x := { A[h] with used := false }) (by rw [List.getElem?_set_self (by omega)]) hp (by rw [List.length_set]; exact Nat.mod_lt _ (by omega)) ?_
          rw [List.length_set]
          rw [if_pos hu] at hf
          have := far_self hh
          simp
          omega
        · refine clock_go (i := i) (x := x) (by rw [List.getElem?_set_ne hne]; exact hi) hx (by rw [List.length_set]; exact Nat.mod_lt _ (by omega)) ?_
          rw [List.length_set]
          have := far_succ hh hil hne
          omega
      · exact ⟨_, rfl⟩
theorem clock_some {A : List Fa} {h : Nat} (hh : h < A.length) (hun : (A.all fun x => decide (0 < x.pins)) = false) : ∃ r, clockA (2 * A.length + 1) A h = some r := by
  have : ∃ x ∈ A, ¬ 0 < x.pins := by
    rcases Classical.em (∃ x ∈ A, ¬ 0 < x.pins) with h | h
    · exact h
    · exfalso
      have : (A.all fun x => decide (0 < x.pins)) = true := by
        rw [List.all_eq_true]
        intro x hx
        exact decide_eq_true (Classical.byContradiction fun hc => h ⟨x, hx, hc⟩)
      rw [this] at hun; cases hun
  obtain ⟨x, hx, hp⟩ := this
  obtain ⟨i, hi, rfl⟩ := List.getElem_of_mem hx
  refine clock_go (List.getElem?_eq_getElem hi) hp hh ?_
  have : far A.length h i ≤ A.length := by unfold far; split <;> omega
  split <;> omega
/-- What the frames have in common with those ahead. -/
theorem clock_fr : ∀ {f : Nat} {A A' : List Fa} {h i h' : Nat}, clockA f A h = some (i, A', h') → ∀ (j : Nat) (y : Fa), A'[j]? = some y → ∃ x, A[j]? = some x ∧ y.page = x.page ∧ y.mark = x.mark ∧ y.pins = x.pins ∧ y.dirty = x.dirty ∧ y.b = x.b
  | 0, _, _, _, _, _, e => by cases e
  | f + 1, A, A', h, i, h', e => by
    intro j y hy
    unfold clockA at e
    split at e
    · cases e
    · rename_i x hx
      split at e
      · exact clock_fr e j y hy
      · split at e
        · obtain ⟨z, hz, q1, q2, q3, q4, q5⟩ := clock_fr e j y hy
          rw [List.getElem?_set] at hz
          split at hz
          · rename_i e2
            subst e2
            rw [if_pos (List.getElem?_eq_some_iff.1 hx).1] at hz
            cases hz
            exact ⟨x, hx, q1, q2, q3, q4, q5⟩
          · exact ⟨z, hz, q1, q2, q3, q4, q5⟩
        · simp only [Option.some.injEq, Prod.mk.injEq] at e
          obtain ⟨_, rfl, _⟩ := e
          exact ⟨y, hy, rfl, rfl, rfl, rfl, rfl⟩
theorem clock_at : ∀ {f : Nat} {A A' : List Fa} {h i h' : Nat}, clockA f A h = some (i, A', h') → h < A.length → h' < A.length ∧ ∃ x, A'[i]? = some x ∧ ¬ 0 < x.pins
  | 0, _, _, _, _, _, e, _ => by cases e
  | f + 1, A, A', h, i, h', e, hh => by
    unfold clockA at e
    have hm : (h + 1) % A.length < A.length := Nat.mod_lt _ (by omega)
    split at e
    · cases e
    · rename_i x hx
      split at e
      · exact clock_at e hm
      · split at e
        · have := clock_at e (by rw [List.length_set]; exact hm); rwa [List.length_set] at this
        · rename_i hp _
          simp only [Option.some.injEq, Prod.mk.injEq] at e
          obtain ⟨rfl, rfl, rfl⟩ := e
          exact ⟨hm, x, hx, hp⟩
end Go.Proofs.YtegohgaccmkigaaDoor

/- The package buffer: Pin, Unpin, Bytes, Put over a pool as a whole. Conditions: sizes; the frames are in order. -/
set_option linter.unusedSimpArgs false
set_option linter.unusedVariables false
namespace Go.Proofs.YtegohgaccmkigaaDoor
open Go.RowKit

set_option maxHeartbeats 2000000 in
set_option maxRecDepth 100000 in
theorem Bf.pin_found (B : Base) (g b gf n first count hand : Nat) (pl : Option Addr) (nl cl : Nat) (Fs : List Fm) (page : Int) (h0 : 0 ≤ page) (hc : page < count) (i : Nat) (x : Fm) (hn : Fs.length = n) (hn2 : n ≤ 4096) (hx : Fd Fs page i x) (hpin : 0 ≤ x.pins) (hpin2 : x.pins < 2 ^ 62) :
    Fn Tryd.prog B 15 #[.pointer (some ⟨g, 0, none⟩), .int .i64 page] [poolB g b gf n first count hand pl nl cl, fmR gf n Fs] (fun u l => u = .int .i64 0 ∧ l = [poolB g b gf n first count hand pl nl cl, fmR gf n (Fs.set i { x with pins := x.pins + 1, used := true })]) := by
  have hi : i < Fs.length := (List.getElem?_eq_some_iff.1 hx.at_).1
  have hfl := fm_len Fs
  refine Fn.enter2 59 Tryd.func15 rfl rfl (Nat.le_of_ble_eq_true rfl) (fun F => ?_)
  try simp only [List.cons_append, List.nil_append]
  refine T.seq ?_
  refine T.region ?_
  refine LW.q rfl (Qt.assign rfl) ?_
  refine LW.done ?_
  refine T.seq ?_
  refine T.seq ?_
  refine T.region ?_
  refine LW.q rfl (Qt.move rfl) ?_
  refine LW.q rfl (Qt.lss rfl rfl) ?_
  refine LW.q rfl (Qt.move rfl) ?_
  first | refine LW.gF (t := 10) rfl rfl ?_ | refine LW.gF (t := 10) rfl (decide_eq_false (by omega)) ?_ | refine LW.gF (t := 10) rfl (by omega) ?_
  refine LW.q rfl (Qt.move rfl) ?_
  refine LW.q rfl (Qt.move rfl) ?_
  refine LW.q rfl (Qt.nilCheck rfl) ?_
  refine LW.q rfl (Qt.fieldAddr0 (by kernel_rfl) rfl) ?_
  refine LW.q rfl (Qt.fieldAddr (off := 2) (by kernel_rfl) rfl) ?_
  first | refine LW.q rfl (Qt.load (by kernel_rfl) rfl rfl) ?_ | refine LW.q rfl (Qt.load (by kernel_rfl) rfl (map_at _ _ _ (by omega))) ?_ | refine LW.q rfl (Qt.load (by kernel_rfl) rfl (flat_cell0 _ _ _ (by intros; rfl) _ (by omega) (by rfl))) ?_ | refine LW.q rfl (Qt.load (by kernel_rfl) rfl (flat_cell _ _ _ (by intros; rfl) _ _ (by omega) (by rfl))) ?_ | refine LW.q rfl (Qt.load (by kernel_rfl) rfl (bytes_at _ _ (by omega))) ?_
  refine LW.q rfl (Qt.geq rfl rfl) ?_
  refine LW.q rfl (Qt.pick rfl rfl) ?_
  refine LW.done ?_
  first | refine T.condF rfl ?_ | refine T.condPF rfl (by omega) ?_ | refine T.condBF rfl (by omega) ?_
  refine T.skip ?_
  refine T.seq ?_
  refine T.region ?_
  refine LW.q rfl (Qt.move rfl) ?_
  refine LW.q rfl (Qt.move rfl) ?_
  refine LW.e rfl (Ef.call (Bf.find_some B g b gf n first count hand pl nl cl Fs page i x hn hn2 hx.at_ hx.pg hx.pos hx.first) Tryd.func34 rfl rfl rfl ?_)
  rintro _ _ ⟨rfl, rfl⟩
  try simp only [List.cons_append, List.nil_append]
  refine LW.q rfl (Qt.assign rfl) ?_
  refine LW.done ?_
  refine T.seq ?_
  refine T.seq ?_
  refine T.region ?_
  refine LW.q rfl (Qt.move rfl) ?_
  first | refine LW.q rfl (Qt.eqlNil (by kernel_rfl) rfl rfl) ?_ | refine LW.q rfl (Qt.eqlNN (by kernel_rfl) rfl rfl) ?_
  refine LW.done ?_
  first | refine T.condF rfl ?_ | refine T.condPF rfl (by omega) ?_ | refine T.condBF rfl (by omega) ?_
  refine T.skip ?_
  refine T.seq ?_
  refine T.region ?_
  refine LW.q rfl (Qt.move rfl) ?_
  refine LW.q rfl (Qt.nilCheck rfl) ?_
  refine LW.q rfl (Qt.fieldAddr (off := 3) (by kernel_rfl) rfl) ?_
  refine LW.q rfl (Qt.load (v := .int .i64 x.pins) (by kernel_rfl) rfl (fm_at hx.at_ 3 (by omega))) ?_
  refine LW.q rfl (Qt.add rfl rfl (wr64 (by omega) (by omega))) ?_
  refine LW.q rfl (Qt.nilCheck rfl) ?_
  refine LW.q rfl (Qt.fieldAddr (off := 3) (by kernel_rfl) rfl) ?_
  refine LW.e0 rfl (Ef.store1 (by kernel_rfl) rfl rfl rfl (by omega) ?_)
  rw [fm_set (y := { x with pins := x.pins + 1 }) hx.at_ 3 (by omega) _ rfl]
  have h2 : (Fs.set i { x with pins := x.pins + 1 })[i]? = some { x with pins := x.pins + 1 } := by rw [List.getElem?_set_self hi]
  have hfl2 := fm_len (Fs.set i { x with pins := x.pins + 1 })
  rw [List.length_set] at hfl2
  refine LW.done ?_
  refine T.seq ?_
  refine T.region ?_
  refine LW.q rfl (Qt.move rfl) ?_
  refine LW.q rfl (Qt.nilCheck rfl) ?_
  refine LW.q rfl (Qt.fieldAddr (off := 5) (by kernel_rfl) rfl) ?_
  refine LW.e0 rfl (Ef.store1 (by kernel_rfl) rfl rfl rfl (by omega) ?_)
  rw [fm_set (y := { x with pins := x.pins + 1, used := true }) h2 5 (by omega) _ rfl, List.set_set]
  refine LW.done ?_
  refine T.seq ?_
  refine T.region ?_
  refine LW.q rfl (Qt.assign rfl) ?_
  refine LW.done ?_
  refine T.ret ?_
  exact ⟨.inl rfl, _, _, res [_] rfl ⟨rvT rfl, trivial⟩, ⟨rfl, rfl⟩, Sub.any⟩

theorem da_row {B : Base} {w : World} {L r r2 : List Assn} {Fs : List Fm} {i m c : Nat} {y : Fm} {p : Option Addr} {b : List UInt8} (hi : i < Fs.length) (hp : y.p = p) (hc : y.c = c) (hb : y.b = b) (hm : b.length = m) [k1 : TakeA (rB (.slice p m c) m b) L r] [k2 : TakeA (daA Fs) r r2] (H : Own B w L) : Own B w (daA (Fs.set i y) :: r2) := by
  subst hp; subst hc; subst hb; subst hm
  exact H.map fun h K => da_put hi _ (Has.cons_imp k2.take (k1.take _ K))

set_option maxHeartbeats 4000000 in
set_option maxRecDepth 100000 in
theorem Bp.pin_clock (B : Base) (g b gf n first count hand : Nat) (gp cl gl : Nat) (W : Wl) (D : DD) (Fs : List Fm) (page : Int) (j : Nat) (hj : page = j) (hjc : j < count) (hn : Fs.length = n) (hn2 : n ≤ 4096) (hh : hand < n)
    (hno : ∀ (k : Nat) (y : Fm), Fs[k]? = some y → y.page ≠ page)
    (hfr : ∀ (j : Nat) (x : Fm), Fs[j]? = some x → 0 ≤ x.page ∧ x.page < count ∧ x.b.length = 256) (hpt : ∀ (i : Nat) (x : Fm), Fs[i]? = some x → 0 < x.b.length → ∃ g, x.p = some ⟨g, 0, none⟩)
    (hun : (Fs.all fun x => decide (0 < x.pins)) = false) (hw : WOk W D) (ho : D.Ok) (hsec : first + count ≤ D.secs.length) (i h' : Nat) (A' : List Fa) (x' : Fa) (hc : clockA (2 * n + 1) (Fs.map Fm.a) hand = some (i, A', h')) (hx' : A'[i]? = some x')
    (W' : Wl) (D' : DD) (hW' : W' = (giveP first W D x').1) (hD' : D' = (giveP first W D x').2) (hl1 : D'.secs.length = D.secs.length) (hroom : D'.pend.length < 2 ^ 32) (dat : List UInt8) (hdat : D'.read (first + j) = dat) (hrl : dat.length = 256) :
    Fn Tryd.prog B 15 #[.pointer (some ⟨g, 0, none⟩), .int .i64 page] [poolB g b gf n first count hand (some ⟨gp, 0, none⟩) 1 cl, fmR gf n Fs, lgR (some ⟨gp, 0, none⟩) 1 cl [ifW gl], wlA gl b W, dskA b D, daA Fs]
      (fun u l => ∃ Fs', Fs'.map Fm.a = A'.set i (newA page dat) ∧ Fs'.length = n ∧ u = .int .i64 0 ∧ l = [poolB g b gf n first count h' (some ⟨gp, 0, none⟩) 1 cl, fmR gf n Fs', lgR (some ⟨gp, 0, none⟩) 1 cl [ifW gl], wlA gl b W', dskA b D', daA Fs']) := by
  subst hW'
  obtain ⟨ha1, ha2⟩ := clock_len hc
  rw [List.length_map, hn] at ha1 ha2
  have hmax := hw.max
  refine Fn.enter2 59 Tryd.func15 rfl rfl (Nat.le_of_ble_eq_true rfl) (fun F => ?_)
  try simp only [List.cons_append, List.nil_append]
  refine T.seq ?_
  refine T.region ?_
  refine LW.q rfl (Qt.assign rfl) ?_
  refine LW.done ?_
  refine T.seq ?_
  refine T.seq ?_
  refine T.region ?_
  refine LW.q rfl (Qt.move rfl) ?_
  refine LW.q rfl (Qt.lss rfl rfl) ?_
  refine LW.q rfl (Qt.move rfl) ?_
  first | refine LW.gF (t := 10) rfl rfl ?_ | refine LW.gF (t := 10) rfl (decide_eq_false (by omega)) ?_ | refine LW.gF (t := 10) rfl (by omega) ?_
  refine LW.q rfl (Qt.move rfl) ?_
  refine LW.q rfl (Qt.move rfl) ?_
  refine LW.q rfl (Qt.nilCheck rfl) ?_
  refine LW.q rfl (Qt.fieldAddr0 (by kernel_rfl) rfl) ?_
  refine LW.q rfl (Qt.fieldAddr (off := 2) (by kernel_rfl) rfl) ?_
  first | refine LW.q rfl (Qt.load (by kernel_rfl) rfl rfl) ?_ | refine LW.q rfl (Qt.load (by kernel_rfl) rfl (map_at _ _ _ (by omega))) ?_ | refine LW.q rfl (Qt.load (by kernel_rfl) rfl (flat_cell0 _ _ _ (by intros; rfl) _ (by omega) (by rfl))) ?_ | refine LW.q rfl (Qt.load (by kernel_rfl) rfl (flat_cell _ _ _ (by intros; rfl) _ _ (by omega) (by rfl))) ?_ | refine LW.q rfl (Qt.load (by kernel_rfl) rfl (bytes_at _ _ (by omega))) ?_
  refine LW.q rfl (Qt.geq rfl rfl) ?_
  refine LW.q rfl (Qt.pick rfl rfl) ?_
  refine LW.done ?_
  first | refine T.condF rfl ?_ | refine T.condPF rfl (by omega) ?_ | refine T.condBF rfl (by omega) ?_
  refine T.skip ?_
  refine T.seq ?_
  refine T.region ?_
  refine LW.q rfl (Qt.move rfl) ?_
  refine LW.q rfl (Qt.move rfl) ?_
  refine LW.e rfl (Ef.call (Bf.find_none B g b gf n first count hand (some ⟨gp, 0, none⟩) 1 cl Fs page hn hn2 (fun j y hj e => absurd e (hno j y hj))) Tryd.func34 rfl rfl rfl ?_)
  rintro _ _ ⟨rfl, rfl⟩
  try simp only [List.cons_append, List.nil_append]
  refine LW.q rfl (Qt.assign rfl) ?_
  refine LW.done ?_
  refine T.seq ?_
  refine T.seq ?_
  refine T.region ?_
  refine LW.q rfl (Qt.move rfl) ?_
  first | refine LW.q rfl (Qt.eqlNil (by kernel_rfl) rfl rfl) ?_ | refine LW.q rfl (Qt.eqlNN (by kernel_rfl) rfl rfl) ?_
  refine LW.done ?_
  first | refine T.condT rfl ?_ | refine T.condPT rfl (by omega) ?_ | refine T.condBT rfl (by omega) ?_
  refine T.seq ?_
  refine T.region ?_
  refine LW.q rfl (Qt.move rfl) ?_
  refine LW.e rfl (Ef.call (Bp.victim_clock B g b gf n first count hand gp cl gl W D Fs hn hn2 hh hfr hpt hun hw ho hsec i h' A' x' hc hx') Tryd.func35 rfl rfl rfl ?_)
  rintro _ _ ⟨Fs2, hA2, hl2, rfl, rfl⟩
  try simp only [List.cons_append, List.nil_append]
  rw [← hD']
  refine LW.q rfl (Qt.assign rfl) ?_
  refine LW.done ?_
  refine T.seq ?_
  refine T.seq ?_
  refine T.region ?_
  refine LW.q rfl (Qt.move rfl) ?_
  first | refine LW.q rfl (Qt.eqlNil (by kernel_rfl) rfl rfl) ?_ | refine LW.q rfl (Qt.eqlNN (by kernel_rfl) rfl rfl) ?_
  refine LW.done ?_
  first | refine T.condF rfl ?_ | refine T.condPF rfl (by omega) ?_ | refine T.condBF rfl (by omega) ?_
  refine T.skip ?_
  refine T.seq ?_
  refine T.drawBl 17 none (by kernel_rfl) (Nat.le_of_ble_eq_true rfl) (by kernel_rfl) ?_
  refine RW.q 0 rfl rfl (by kernel_rfl) Sub.any (Qt.move rfl) ?_
  refine RW.q 1 rfl rfl (by kernel_rfl) Sub.any (Qt.nilCheck rfl) ?_
  refine RW.q 2 rfl rfl (by kernel_rfl) Sub.any (Qt.fieldAddr0 (by kernel_rfl) rfl) ?_
  refine RW.q 3 rfl rfl (by kernel_rfl) Sub.any (Qt.fieldAddr0 (by kernel_rfl) rfl) ?_
  first | refine RW.q 4 rfl rfl (by kernel_rfl) Sub.any (Qt.load (by kernel_rfl) rfl rfl) ?_ | refine RW.q 4 rfl rfl (by kernel_rfl) Sub.any (Qt.load (by kernel_rfl) rfl (map_at _ _ _ (by omega))) ?_ | refine RW.q 4 rfl rfl (by kernel_rfl) Sub.any (Qt.load (by kernel_rfl) rfl (flat_cell0 _ _ _ (by intros; rfl) _ (by omega) (by rfl))) ?_ | refine RW.q 4 rfl rfl (by kernel_rfl) Sub.any (Qt.load (by kernel_rfl) rfl (flat_cell _ _ _ (by intros; rfl) _ _ (by omega) (by rfl))) ?_ | refine RW.q 4 rfl rfl (by kernel_rfl) Sub.any (Qt.load (by kernel_rfl) rfl (bytes_at _ _ (by omega))) ?_
  refine RW.q 5 rfl rfl (by kernel_rfl) Sub.any (Qt.move rfl) ?_
  refine RW.q 6 rfl rfl (by kernel_rfl) Sub.any (Qt.nilCheck rfl) ?_
  refine RW.q 7 rfl rfl (by kernel_rfl) Sub.any (Qt.fieldAddr0 (by kernel_rfl) rfl) ?_
  refine RW.q 8 rfl rfl (by kernel_rfl) Sub.any (Qt.fieldAddr (off := 1) (by kernel_rfl) rfl) ?_
  first | refine RW.q 9 rfl rfl (by kernel_rfl) Sub.any (Qt.load (by kernel_rfl) rfl rfl) ?_ | refine RW.q 9 rfl rfl (by kernel_rfl) Sub.any (Qt.load (by kernel_rfl) rfl (map_at _ _ _ (by omega))) ?_ | refine RW.q 9 rfl rfl (by kernel_rfl) Sub.any (Qt.load (by kernel_rfl) rfl (flat_cell0 _ _ _ (by intros; rfl) _ (by omega) (by rfl))) ?_ | refine RW.q 9 rfl rfl (by kernel_rfl) Sub.any (Qt.load (by kernel_rfl) rfl (flat_cell _ _ _ (by intros; rfl) _ _ (by omega) (by rfl))) ?_ | refine RW.q 9 rfl rfl (by kernel_rfl) Sub.any (Qt.load (by kernel_rfl) rfl (bytes_at _ _ (by omega))) ?_
  refine RW.q 10 rfl rfl (by kernel_rfl) Sub.any (Qt.move rfl) ?_
  refine RW.q 11 rfl rfl (by kernel_rfl) Sub.any (Qt.add rfl rfl (wr64 (by omega) (by omega))) ?_
  refine RW.one 12 (by kernel_rfl) ?_
  refine RO.eS rfl rfl (Ef.call (Dk.readF B b D' (first + j) _ (by omega) (by omega) hroom) Tryd.func19 rfl rfl rfl ?_)
  rintro _ _ ⟨gx, cx, rfl, rfl⟩
  try simp only [List.cons_append, List.nil_append]
  rw [hdat]
  have hi : i < Fs2.length := by omega
  have hfl := fm_len Fs2
  refine ⟨Sub.any, ?_⟩
  refine RW.q 13 rfl rfl (by kernel_rfl) Sub.any (Qt.move rfl) ?_
  refine RW.q 14 rfl rfl (by kernel_rfl) Sub.any (Qt.extract rfl rfl) ?_
  refine RW.q 15 rfl rfl (by kernel_rfl) Sub.any (Qt.extract rfl rfl) ?_
  refine RW.q 16 rfl rfl (by kernel_rfl) Sub.any (Qt.assign rfl) ?_
  refine RW.done (by rfl) ?_
  simp only [List.drop_succ_cons, List.drop_zero, List.drop_nil]
  refine LW.q rfl (Qt.assign rfl) ?_
  refine LW.done ?_
  refine T.region ?_
  refine LW.q rfl (Qt.move rfl) ?_
  refine LW.q rfl (Qt.move rfl) ?_
  refine LW.q rfl (Qt.move rfl) ?_
  refine LW.q rfl (Qt.build [(0, 1), (1, 1), (2, 1), (3, 1), (4, 1), (5, 1)] [.int .i64 0, .slice none 0 0, .int .i64 0, .int .i64 0, .bool false, .bool false] [_, _, _, _, _, _] [(0, _), (1, _)] (by kernel_rfl) (by unfold zeroB; kernel_rfl) rfl rfl) ?_
  refine LW.q rfl (Qt.nilCheck rfl) ?_
  refine LW.e0 rfl (Ef.store (fmC ⟨page, 0, 0, false, false, some ⟨gx, 0, none⟩, cx, dat⟩) (by kernel_rfl) rfl rfl (by simp only [fmC, hrl]; rfl) rfl (by simp only [List.length_cons, List.length_nil]; omega) ?_)
  rw [fm_splice hi]
  have h2 : (Fs2.set i ⟨page, 0, 0, false, false, some ⟨gx, 0, none⟩, cx, dat⟩)[i]? = some ⟨page, 0, 0, false, false, some ⟨gx, 0, none⟩, cx, dat⟩ := by rw [List.getElem?_set_self hi]
  have hfl2 := fm_len (Fs2.set i ⟨page, 0, 0, false, false, some ⟨gx, 0, none⟩, cx, dat⟩)
  rw [List.length_set] at hfl2
  refine LW.done ?_
  refine T.seq ?_
  refine T.region ?_
  refine LW.q rfl (Qt.move rfl) ?_
  refine LW.q rfl (Qt.nilCheck rfl) ?_
  refine LW.q rfl (Qt.fieldAddr (off := 3) (by kernel_rfl) rfl) ?_
  refine LW.q rfl (Qt.load (v := .int .i64 0) (by kernel_rfl) rfl (fm_at h2 3 (by omega))) ?_
  refine LW.q rfl (Qt.add rfl rfl (wr64 (by omega) (by omega))) ?_
  refine LW.q rfl (Qt.nilCheck rfl) ?_
  refine LW.q rfl (Qt.fieldAddr (off := 3) (by kernel_rfl) rfl) ?_
  refine LW.e0 rfl (Ef.store1 (by kernel_rfl) rfl rfl rfl (by omega) ?_)
  rw [fm_set (y := ⟨page, 0, 1, false, false, some ⟨gx, 0, none⟩, cx, dat⟩) h2 3 (by omega) (.int .i64 (0 + 1)) rfl, List.set_set]
  have h3 : (Fs2.set i ⟨page, 0, 1, false, false, some ⟨gx, 0, none⟩, cx, dat⟩)[i]? = some ⟨page, 0, 1, false, false, some ⟨gx, 0, none⟩, cx, dat⟩ := by rw [List.getElem?_set_self hi]
  have hfl3 := fm_len (Fs2.set i ⟨page, 0, 1, false, false, some ⟨gx, 0, none⟩, cx, dat⟩)
  rw [List.length_set] at hfl3
  refine LW.done ?_
  refine T.seq ?_
  refine T.region ?_
  refine LW.q rfl (Qt.move rfl) ?_
  refine LW.q rfl (Qt.nilCheck rfl) ?_
  refine LW.q rfl (Qt.fieldAddr (off := 5) (by kernel_rfl) rfl) ?_
  refine LW.e0 rfl (Ef.store1 (by kernel_rfl) rfl rfl rfl (by omega) ?_)
  rw [fm_set (y := fmNew page (some ⟨gx, 0, none⟩) cx dat) h3 5 (by omega) _ rfl, List.set_set]
  refine LW.done ?_
  refine T.seq ?_
  refine T.region ?_
  refine LW.q rfl (Qt.assign rfl) ?_
  refine LW.done ?_
  refine T.conv (fun w ho => da_row (Fs := Fs2) (y := fmNew page (some ⟨gx, 0, none⟩) cx dat) hi rfl rfl rfl hrl ho) ?_
  refine T.ret ?_
  exact ⟨.inl rfl, _, _, res [_] rfl ⟨rvT rfl, trivial⟩, ⟨Fs2.set i (fmNew page (some ⟨gx, 0, none⟩) cx dat), by rw [List.map_set, hA2]; rfl, by rw [List.length_set]; exact hl2, rfl, rfl⟩, Sub.any⟩

/-! what Pin comes to, case by case -/
section
variable {first count n : Nat} {s : Pl} {page : Int}
theorem pinP_range (h : page < 0 ∨ (count : Int) ≤ page) : pinP first count s page = (s, 1) := by unfold pinP; rw [if_pos h]
theorem pinP_found {i : Nat} {x : Fa} (h : ¬ (page < 0 ∨ (count : Int) ≤ page)) (hf : findA s.A page = some i) (hx : s.A[i]? = some x) : pinP first count s page = ({ s with A := s.A.set i (upA x) }, 0) := by unfold pinP; rw [if_neg h, hf]; dsimp only; rw [hx]
theorem pinP_free {i : Nat} (h : ¬ (page < 0 ∨ (count : Int) ≤ page)) (hf : findA s.A page = none) (hx : s.A.findIdx? (fun x => decide (x.page < 0)) = some i) : pinP first count s page = ({ s with A := s.A.set i (newA page (s.D.read (first + page.toNat))) }, 0) := by
  unfold pinP; rw [if_neg h, hf]; dsimp only; unfold victimP; rw [hx]
theorem pinP_full (h : ¬ (page < 0 ∨ (count : Int) ≤ page)) (hf : findA s.A page = none) (hx : s.A.findIdx? (fun x => decide (x.page < 0)) = none) (ha : (s.A.all fun x => decide (0 < x.pins)) = true) : pinP first count s page = (s, 60) := by
  unfold pinP; rw [if_neg h, hf]; dsimp only; unfold victimP; rw [hx]; dsimp only; rw [if_pos ha]
theorem pinP_clock {i h' : Nat} {A' : List Fa} {x' : Fa} (h : ¬ (page < 0 ∨ (count : Int) ≤ page)) (hf : findA s.A page = none) (hx : s.A.findIdx? (fun x => decide (x.page < 0)) = none) (ha : (s.A.all fun x => decide (0 < x.pins)) = false) (hc : clockA (2 * s.A.length + 1) s.A s.hand = some (i, A', h')) (hx' : A'[i]? = some x') :
    pinP first count s page = (⟨A'.set i (newA page ((giveP first s.W s.D x').2.read (first + page.toNat))), h', (giveP first s.W s.D x').1, (giveP first s.W s.D x').2⟩, 0) := by
  unfold pinP; rw [if_neg h, hf]; dsimp only; unfold victimP; rw [hx]; dsimp only; rw [if_neg (by rw [ha]; simp), hc]; dsimp only; rw [hx']
/-- The cases of Pin. -/
inductive PinC (first count : Nat) (s : Pl) (page : Int) : Pl × Int → Prop
  | range (h : page < 0 ∨ (count : Int) ≤ page) : PinC first count s page (s, 1)
  | found (i : Nat) (x : Fa) (h : ¬ (page < 0 ∨ (count : Int) ≤ page)) (hf : findA s.A page = some i) (hx : s.A[i]? = some x) : PinC first count s page ({ s with A := s.A.set i (upA x) }, 0)
  | free (i : Nat) (x : Fa) (h : ¬ (page < 0 ∨ (count : Int) ≤ page)) (hf : findA s.A page = none) (hi : s.A[i]? = some x) (hp : x.page < 0) (hfirst : ∀ (k : Nat), k < i → ∀ y : Fa, s.A[k]? = some y → 0 ≤ y.page) : PinC first count s page ({ s with A := s.A.set i (newA page (s.D.read (first + page.toNat))) }, 0)
  | full (h : ¬ (page < 0 ∨ (count : Int) ≤ page)) (hf : findA s.A page = none) (hx : ∀ (j : Nat) (y : Fa), s.A[j]? = some y → 0 ≤ y.page ∧ 0 < y.pins) : PinC first count s page (s, 60)
  | clock (i h' : Nat) (A' : List Fa) (x' : Fa) (h : ¬ (page < 0 ∨ (count : Int) ≤ page)) (hf : findA s.A page = none) (hx : ∀ (j : Nat) (y : Fa), s.A[j]? = some y → 0 ≤ y.page) (ha : (s.A.all fun x => decide (0 < x.pins)) = false) (hc : clockA (2 * s.A.length + 1) s.A s.hand = some (i, A', h')) (hx' : A'[i]? = some x') (hup : ¬ 0 < x'.pins) :
      PinC first count s page (⟨A'.set i (newA page ((giveP first s.W s.D x').2.read (first + page.toNat))), h', (giveP first s.W s.D x').1, (giveP first s.W s.D x').2⟩, 0)
theorem pin_cases (hh : s.hand < s.A.length) : PinC first count s page (pinP first count s page) := by
  by_cases h : page < 0 ∨ (count : Int) ≤ page
  · rw [pinP_range h]; exact .range h
  · cases hf : findA s.A page with
    | some i =>
      obtain ⟨_, x, hx, _⟩ := findA_some hf
      rw [pinP_found h hf hx]
      exact .found i x h hf hx
    | none =>
      cases hx : s.A.findIdx? (fun x => decide (x.page < 0)) with
      | some i =>
        rw [pinP_free h hf hx]
        obtain ⟨hi, h1, h2⟩ := List.findIdx?_eq_some_iff_getElem.1 hx
        refine .free i s.A[i] h hf (List.getElem?_eq_getElem hi) (of_decide_eq_true h1) fun k hk y hy => ?_
        have hkl := (List.getElem?_eq_some_iff.1 hy).1
        have := h2 k hk
        rw [List.getElem?_eq_getElem hkl] at hy
        cases hy
        have := of_decide_eq_false (Bool.eq_false_iff.2 this)
        omega
      | none =>
        have hge : ∀ (j : Nat) (y : Fa), s.A[j]? = some y → 0 ≤ y.page := fun j y hy => by
          have := List.findIdx?_eq_none_iff.1 hx y (List.mem_of_getElem? hy)
          have := of_decide_eq_false this
          omega
        cases ha : s.A.all fun x => decide (0 < x.pins) with
        | true =>
          rw [pinP_full h hf hx ha]
          exact .full h hf fun j y hy => ⟨hge j y hy, of_decide_eq_true (List.all_eq_true.1 ha y (List.mem_of_getElem? hy))⟩
        | false =>
          obtain ⟨⟨i, A', h'⟩, hc⟩ := clock_some hh ha
          obtain ⟨_, x', hx', hup⟩ := clock_at hc hh
          rw [pinP_clock h hf hx ha hc hx']
          exact .clock i h' A' x' h hf hge ha hc hx' hup
end
theorem fr_ok {count n : Nat} {A : List Fa} (hF : FOk count n A) {j : Nat} {y : Fa} (hy : A[j]? = some y) (h0 : 0 ≤ y.page) : 0 ≤ y.page ∧ y.page < count ∧ y.b.length = 256 ∧ 0 ≤ y.pins := by
  rcases hF.fr y (List.mem_of_getElem? hy) with rfl | h
  · exact absurd h0 (by decide)
  · exact h
theorem WOk.give {first : Nat} {W : Wl} {D : DD} (h : WOk W D) (ho : D.Ok) (hp : D.pend.length + 16384 + 1 < 2 ^ 32) (x : Fa) (hx : first + x.page.toNat < D.secs.length) (hb : x.b.length = 256) : WOk (giveP first W D x).1 (giveP first W D x).2 ∧ (giveP first W D x).2.Ok ∧ (giveP first W D x).2.secs.length = D.secs.length ∧ (giveP first W D x).2.pend.length ≤ D.pend.length + 1 ∧ (giveP first W D x).1.first = W.first ∧ (giveP first W D x).1.count = W.count ∧ (giveP first W D x).1.st = W.st := by
  obtain ⟨f1, f2, f3, f4, f5, f6, f7⟩ := h.force ho x.mark h.room
  unfold giveP
  split
  · refine ⟨⟨f1.fit, f1.max, f1.st, f1.dur, ?_⟩, f2.wr2 _ _ (by omega) hb, f3, ?_, f5, f6, f7⟩
    · simp [DD.write]; omega
    · simp [DD.write]; omega
  · exact ⟨h, ho, rfl, Nat.le_succ _, rfl, rfl, rfl⟩

set_option maxHeartbeats 1000000 in
theorem Bp.pin (B : Base) (g b n first count hand gl : Nat) (A : List Fa) (W : Wl) (D : DD) (page : Int) (hF : FOk count n A) (hpin : ∀ x ∈ A, x.pins < 2 ^ 62) (hh : hand < n) (hw : WOk W D) (ho : D.Ok) (hp : D.pend.length + 16384 + 1 < 2 ^ 32) (hsec : first + count ≤ D.secs.length) :
    Fn Tryd.prog B 15 #[.pointer (some ⟨g, 0, none⟩), .int .i64 page] [plA g b n first count hand gl A, wlA gl b W, dskA b D]
      (fun u l => u = .int .i64 (pinP first count ⟨A, hand, W, D⟩ page).2 ∧ l = [plA g b n first count (pinP first count ⟨A, hand, W, D⟩ page).1.hand gl (pinP first count ⟨A, hand, W, D⟩ page).1.A, wlA gl b (pinP first count ⟨A, hand, W, D⟩ page).1.W, dskA b (pinP first count ⟨A, hand, W, D⟩ page).1.D]) := by
  refine Fn.openPl fun q hA hptr ⟨gp, hgp⟩ => ?_
  obtain ⟨Fs, gf, pl, cl⟩ := q
  dsimp only at hA hptr hgp ⊢
  subst hgp
  simp only [plC, List.cons_append, List.nil_append]
  have hl : Fs.length = n := by rw [← hF.len, ← hA, List.length_map]
  have hn2 := hF.n2
  have hwm := hw.max
  have hwr := hw.room
  have hs : ∀ (A' : List Fa) (h' : Nat) (W' : Wl) (D' : DD) (Fs' : List Fm), Fs'.map Fm.a = A' → Sub [poolB g b gf n first count h' (some ⟨gp, 0, none⟩) 1 cl, fmR gf n Fs', lgR (some ⟨gp, 0, none⟩) 1 cl [ifW gl], daA Fs', wlA gl b W', dskA b D'] [plA g b n first count h' gl A', wlA gl b W', dskA b D'] := fun A' h' W' D' Fs' e => sub_pl ⟨Fs', gf, some ⟨gp, 0, none⟩, cl⟩ e
  have hc := pin_cases (first := first) (count := count) (page := page) (s := ⟨A, hand, W, D⟩) (by rw [hF.len]; exact hh)
  generalize hr : pinP first count ⟨A, hand, W, D⟩ page = res at hc ⊢
  cases hc with
  | range h =>
    refine Fn.wide (Bf.pin_range B g b gf n first count hand (some ⟨gp, 0, none⟩) 1 cl page h) ?_
    rintro v l' ⟨rfl, rfl⟩
    simp only [List.cons_append, List.nil_append]
    exact ⟨_, hs A hand W D Fs hA, by simp, rfl⟩
  | found i x h hf hx =>
    obtain ⟨z, hz⟩ := fd_of hA hf
    obtain rfl : z.a = x := by have := map_a_at hA hz.at_; dsimp only at hx; rw [hx] at this; exact (Option.some.inj this).symm
    have hpz : 0 ≤ z.a.pins := (fr_ok hF hx (by rw [show z.a.page = z.page from rfl, hz.pg]; omega)).2.2.2
    refine Fn.wide (Bf.pin_found B g b gf n first count hand (some ⟨gp, 0, none⟩) 1 cl Fs page (by omega) (by omega) i z hl hn2 hz hpz (hpin z.a (List.mem_of_getElem? hx))) ?_
    rintro v l' ⟨rfl, rfl⟩
    simp only [List.cons_append, List.nil_append]
    refine ⟨_, ?_, by simp, rfl⟩
    have := hs (A.set i (upA z.a)) hand W D (Fs.set i { z with pins := z.pins + 1, used := true }) (by rw [List.map_set, hA]; rfl)
    rw [da_same (y := { z with pins := z.pins + 1, used := true }) hz.at_ rfl rfl rfl] at this
    exact fun k K => this k (Sub.any k K)
  | free i x h hf hi hp2 hfirst =>
    obtain ⟨z, hz, rfl⟩ := map_a_back hA hi
    have hil : i < Fs.length := (List.getElem?_eq_some_iff.1 hz).1
    have hrl := ho.rd (first + page.toNat) (by omega)
    refine Fn.wide (Bf.pin_free B g b gf n first count hand (some ⟨gp, 0, none⟩) 1 cl Fs D page page.toNat (by omega) (by omega) hl hn2 (nofd_of hA hf (by omega)) i z hz hp2 (fun k hk y hy => hfirst k hk y.a (map_a_at hA hy)) (by omega) (by omega) (by omega) hrl) ?_
    rintro v l' ⟨gx, c, rfl, rfl⟩
    simp only [List.cons_append, List.nil_append]
    refine ⟨_, ?_, by simp, rfl⟩
    have := hs (A.set i (newA page (D.read (first + page.toNat)))) hand W D (Fs.set i (fmNew page (some ⟨gx, 0, none⟩) c (D.read (first + page.toNat)))) (by rw [List.map_set, hA]; rfl)
    refine fun k K => this k ?_
    have K2 : Has (rB (.slice (some ⟨gx, 0, none⟩) 256 c) 256 (D.read (first + page.toNat)) :: daA Fs :: [poolB g b gf n first count hand (some ⟨gp, 0, none⟩) 1 cl, fmR gf n (Fs.set i (fmNew page (some ⟨gx, 0, none⟩) c (D.read (first + page.toNat)))), lgR (some ⟨gp, 0, none⟩) 1 cl [ifW gl], wlA gl b W, dskA b D]) k := Sub.any k K
    have K3 : Has (fmD (fmNew page (some ⟨gx, 0, none⟩) c (D.read (first + page.toNat))) :: daA Fs :: [poolB g b gf n first count hand (some ⟨gp, 0, none⟩) 1 cl, fmR gf n (Fs.set i (fmNew page (some ⟨gx, 0, none⟩) c (D.read (first + page.toNat)))), lgR (some ⟨gp, 0, none⟩) 1 cl [ifW gl], wlA gl b W, dskA b D]) k := by
      rw [fmD]
      dsimp only
      rw [hrl]
      exact K2
    have K4 := da_put hil k K3
    exact Sub.any k K4
  | full h hf hx =>
    refine Fn.wide (Bf.pin_full B g b gf n first count hand (some ⟨gp, 0, none⟩) 1 cl Fs page (by omega) (by omega) hl hn2 (nofd_of hA hf (by omega)) (fun j y hy => hx j y.a (map_a_at hA hy))) ?_
    rintro v l' ⟨rfl, rfl⟩
    simp only [List.cons_append, List.nil_append]
    exact ⟨_, fun k K => hs A hand W D Fs hA k (Sub.any k K), by simp, rfl⟩
  | clock i h' A' x' h hf hx ha hc hx' hup =>
    dsimp only at hc ha hx hf
    obtain ⟨y, hy, q1, q2, q3, q4, q5⟩ := clock_fr hc i x' hx'
    have hyo := fr_ok hF hy (hx i y hy)
    obtain ⟨f1, f2, f3, f4, f5, f6, f7⟩ := hw.give (first := first) ho hp x' (by rw [q1]; omega) (by rw [q5]; exact hyo.2.2.1)
    refine Fn.wide (Bp.pin_clock B g b gf n first count hand gp cl gl W D Fs page page.toNat (by omega) (by omega) hl hn2 hh (nofd_of hA hf (by omega)) (fun j z hz => by have := fr_ok hF (map_a_at hA hz) (hx j z.a (map_a_at hA hz)); exact ⟨this.1, this.2.1, this.2.2.1⟩) hptr (by rw [← hA, List.all_map] at ha; exact ha) hw ho hsec i h' A' x' (by rw [hA, ← hF.len]; exact hc) hx' _ _ rfl rfl f3 (by omega) _ rfl (f2.rd _ (by rw [f3]; omega))) ?_
    rintro v l' ⟨Fs', e1, e2, rfl, rfl⟩
    simp only [List.cons_append, List.nil_append]
    exact ⟨_, fun k K => hs _ h' _ _ Fs' e1 k (Sub.any k K), by simp, rfl⟩
end Go.Proofs.YtegohgaccmkigaaDoor

/- The statements of the package buffer: laid, full, awake. Conditions: sizes. -/
set_option linter.unusedSimpArgs false
set_option linter.unusedVariables false
namespace Go.Proofs.YtegohgaccmkigaaDoor
open Go.RowKit

theorem one_at {x y : Fm} {k : Nat} (h : ([x] : List Fm)[k]? = some y) : y = x := by
  cases k with
  | zero => simpa using h.symm
  | succ k => simp at h

set_option maxHeartbeats 4000000 in
set_option maxRecDepth 100000 in
theorem Bf.pin_one (B : Base) (g b gf first count : Nat) (pl : Option Addr) (cl : Nat) (x : Fm) (gl : Nat) (W : Wl) (D D' : DD) (jx : Nat) (hjx : x.page = jx) (hx1 : x.pins = 0) (hx2 : x.used = true) (hx3 : x.dirty = true) (hx4 : x.b.length = 256) (gx cx : Nat) (bx : List UInt8) (hgx : x.p = some ⟨gx, 0, none⟩) (hcx : x.c = cx) (hbx : x.b = bx) (hdur : W.dur < 2 ^ 40) (hm : x.mark ≤ W.dur) (hsecx : first + jx < D.secs.length)
    (page : Int) (j : Nat) (hj : page = j) (hc : j < count) (hne : jx ≠ j) (hsec : first + count ≤ D.secs.length) (hmx : D.secs.length ≤ 4096) (hroom : D.pend.length + 1 < 2 ^ 32) (hD' : D' = D.write (first + jx) bx) (dat : List UInt8) (hdat : D'.read (first + j) = dat) (hrl : dat.length = 256) :
    Fn Tryd.prog B 15 #[.pointer (some ⟨g, 0, none⟩), .int .i64 page] [poolB g b gf 1 first count 0 pl 1 cl, fmR gf 1 [x], lgR pl 1 cl [ifW gl], wlA gl b W, dskA b D, rB (.slice (some ⟨gx, 0, none⟩) 256 cx) 256 bx]
      (fun u l => ∃ gy c, u = .int .i64 0 ∧ l = [rB (.slice (some ⟨gy, 0, none⟩) 256 c) 256 dat, poolB g b gf 1 first count 0 pl 1 cl, fmR gf 1 [fmNew page (some ⟨gy, 0, none⟩) c dat], lgR pl 1 cl [ifW gl], wlA gl b W, dskA b D']) := by
  subst hcx; subst hbx; subst hD'
  have hl1 : (D.write (first + jx) x.b).secs.length = D.secs.length := rfl
  have hl2 : (D.write (first + jx) x.b).pend.length = D.pend.length + 1 := by simp [DD.write]
  obtain ⟨D', hD'⟩ : ∃ D', D.write (first + jx) x.b = D' := ⟨_, rfl⟩
  rw [hD'] at hl1 hl2 hdat ⊢
  refine Fn.enter2 59 Tryd.func15 rfl rfl (Nat.le_of_ble_eq_true rfl) (fun F => ?_)
  try simp only [List.cons_append, List.nil_append]
  refine T.seq ?_
  refine T.region ?_
  refine LW.q rfl (Qt.assign rfl) ?_
  refine LW.done ?_
  refine T.seq ?_
  refine T.seq ?_
  refine T.region ?_
  refine LW.q rfl (Qt.move rfl) ?_
  refine LW.q rfl (Qt.lss rfl rfl) ?_
  refine LW.q rfl (Qt.move rfl) ?_
  first | refine LW.gF (t := 10) rfl rfl ?_ | refine LW.gF (t := 10) rfl (decide_eq_false (by omega)) ?_ | refine LW.gF (t := 10) rfl (by omega) ?_
  refine LW.q rfl (Qt.move rfl) ?_
  refine LW.q rfl (Qt.move rfl) ?_
  refine LW.q rfl (Qt.nilCheck rfl) ?_
  refine LW.q rfl (Qt.fieldAddr0 (by kernel_rfl) rfl) ?_
  refine LW.q rfl (Qt.fieldAddr (off := 2) (by kernel_rfl) rfl) ?_
  first | refine LW.q rfl (Qt.load (by kernel_rfl) rfl rfl) ?_ | refine LW.q rfl (Qt.load (by kernel_rfl) rfl (map_at _ _ _ (by omega))) ?_ | refine LW.q rfl (Qt.load (by kernel_rfl) rfl (flat_cell0 _ _ _ (by intros; rfl) _ (by omega) (by rfl))) ?_ | refine LW.q rfl (Qt.load (by kernel_rfl) rfl (flat_cell _ _ _ (by intros; rfl) _ _ (by omega) (by rfl))) ?_ | refine LW.q rfl (Qt.load (by kernel_rfl) rfl (bytes_at _ _ (by omega))) ?_
  refine LW.q rfl (Qt.geq rfl rfl) ?_
  refine LW.q rfl (Qt.pick rfl rfl) ?_
  refine LW.done ?_
  first | refine T.condF rfl ?_ | refine T.condPF rfl (by omega) ?_ | refine T.condBF rfl (by omega) ?_
  refine T.skip ?_
  refine T.seq ?_
  refine T.region ?_
  refine LW.q rfl (Qt.move rfl) ?_
  refine LW.q rfl (Qt.move rfl) ?_
  refine LW.e rfl (Ef.call (Bf.find_none B g b gf 1 first count 0 pl 1 cl [x] page rfl (by omega) (fun k y hk e => by have := List.getElem?_eq_some_iff.1 hk; obtain ⟨h1, h2⟩ := this; simp at h1; subst h1; simp at h2; subst h2; omega)) Tryd.func34 rfl rfl rfl ?_)
  rintro _ _ ⟨rfl, rfl⟩
  try simp only [List.cons_append, List.nil_append]
  refine LW.q rfl (Qt.assign rfl) ?_
  refine LW.done ?_
  refine T.seq ?_
  refine T.seq ?_
  refine T.region ?_
  refine LW.q rfl (Qt.move rfl) ?_
  first | refine LW.q rfl (Qt.eqlNil (by kernel_rfl) rfl rfl) ?_ | refine LW.q rfl (Qt.eqlNN (by kernel_rfl) rfl rfl) ?_
  refine LW.done ?_
  first | refine T.condT rfl ?_ | refine T.condPT rfl (by omega) ?_ | refine T.condBT rfl (by omega) ?_
  refine T.seq ?_
  refine T.region ?_
  refine LW.q rfl (Qt.move rfl) ?_
  refine LW.e rfl (Ef.call (Bf.victim_one B g b gf first count pl cl x gl W D jx hjx hx1 hx2 hx3 hx4 gx hgx hdur hm hsecx hmx (by omega)) Tryd.func35 rfl rfl rfl ?_)
  rintro _ _ ⟨rfl, rfl⟩
  try simp only [List.cons_append, List.nil_append]
  rw [hD']
  refine LW.q rfl (Qt.assign rfl) ?_
  refine LW.done ?_
  refine T.seq ?_
  refine T.seq ?_
  refine T.region ?_
  refine LW.q rfl (Qt.move rfl) ?_
  first | refine LW.q rfl (Qt.eqlNil (by kernel_rfl) rfl rfl) ?_ | refine LW.q rfl (Qt.eqlNN (by kernel_rfl) rfl rfl) ?_
  refine LW.done ?_
  first | refine T.condF rfl ?_ | refine T.condPF rfl (by omega) ?_ | refine T.condBF rfl (by omega) ?_
  refine T.skip ?_
  refine T.seq ?_
  refine T.drawBl 17 none (by kernel_rfl) (Nat.le_of_ble_eq_true rfl) (by kernel_rfl) ?_
  refine RW.q 0 rfl rfl (by kernel_rfl) Sub.any (Qt.move rfl) ?_
  refine RW.q 1 rfl rfl (by kernel_rfl) Sub.any (Qt.nilCheck rfl) ?_
  refine RW.q 2 rfl rfl (by kernel_rfl) Sub.any (Qt.fieldAddr0 (by kernel_rfl) rfl) ?_
  refine RW.q 3 rfl rfl (by kernel_rfl) Sub.any (Qt.fieldAddr0 (by kernel_rfl) rfl) ?_
  first | refine RW.q 4 rfl rfl (by kernel_rfl) Sub.any (Qt.load (by kernel_rfl) rfl rfl) ?_ | refine RW.q 4 rfl rfl (by kernel_rfl) Sub.any (Qt.load (by kernel_rfl) rfl (map_at _ _ _ (by omega))) ?_ | refine RW.q 4 rfl rfl (by kernel_rfl) Sub.any (Qt.load (by kernel_rfl) rfl (flat_cell0 _ _ _ (by intros; rfl) _ (by omega) (by rfl))) ?_ | refine RW.q 4 rfl rfl (by kernel_rfl) Sub.any (Qt.load (by kernel_rfl) rfl (flat_cell _ _ _ (by intros; rfl) _ _ (by omega) (by rfl))) ?_ | refine RW.q 4 rfl rfl (by kernel_rfl) Sub.any (Qt.load (by kernel_rfl) rfl (bytes_at _ _ (by omega))) ?_
  refine RW.q 5 rfl rfl (by kernel_rfl) Sub.any (Qt.move rfl) ?_
  refine RW.q 6 rfl rfl (by kernel_rfl) Sub.any (Qt.nilCheck rfl) ?_
  refine RW.q 7 rfl rfl (by kernel_rfl) Sub.any (Qt.fieldAddr0 (by kernel_rfl) rfl) ?_
  refine RW.q 8 rfl rfl (by kernel_rfl) Sub.any (Qt.fieldAddr (off := 1) (by kernel_rfl) rfl) ?_
  first | refine RW.q 9 rfl rfl (by kernel_rfl) Sub.any (Qt.load (by kernel_rfl) rfl rfl) ?_ | refine RW.q 9 rfl rfl (by kernel_rfl) Sub.any (Qt.load (by kernel_rfl) rfl (map_at _ _ _ (by omega))) ?_ | refine RW.q 9 rfl rfl (by kernel_rfl) Sub.any (Qt.load (by kernel_rfl) rfl (flat_cell0 _ _ _ (by intros; rfl) _ (by omega) (by rfl))) ?_ | refine RW.q 9 rfl rfl (by kernel_rfl) Sub.any (Qt.load (by kernel_rfl) rfl (flat_cell _ _ _ (by intros; rfl) _ _ (by omega) (by rfl))) ?_ | refine RW.q 9 rfl rfl (by kernel_rfl) Sub.any (Qt.load (by kernel_rfl) rfl (bytes_at _ _ (by omega))) ?_
  refine RW.q 10 rfl rfl (by kernel_rfl) Sub.any (Qt.move rfl) ?_
  refine RW.q 11 rfl rfl (by kernel_rfl) Sub.any (Qt.add rfl rfl (wr64 (by omega) (by omega))) ?_
  refine RW.one 12 (by kernel_rfl) ?_
  refine RO.eS rfl rfl (Ef.call (Dk.readF B b D' (first + j) _ (by omega) (by omega) (by omega)) Tryd.func19 rfl rfl rfl ?_)
  rintro _ _ ⟨gy, cy, rfl, rfl⟩
  try simp only [List.cons_append, List.nil_append]
  rw [hdat]
  refine ⟨Sub.any, ?_⟩
  refine RW.q 13 rfl rfl (by kernel_rfl) Sub.any (Qt.move rfl) ?_
  refine RW.q 14 rfl rfl (by kernel_rfl) Sub.any (Qt.extract rfl rfl) ?_
  refine RW.q 15 rfl rfl (by kernel_rfl) Sub.any (Qt.extract rfl rfl) ?_
  refine RW.q 16 rfl rfl (by kernel_rfl) Sub.any (Qt.assign rfl) ?_
  refine RW.done (by rfl) ?_
  simp only [List.drop_succ_cons, List.drop_zero, List.drop_nil]
  refine LW.q rfl (Qt.assign rfl) ?_
  refine LW.done ?_
  refine T.region ?_
  refine LW.q rfl (Qt.move rfl) ?_
  refine LW.q rfl (Qt.move rfl) ?_
  refine LW.q rfl (Qt.move rfl) ?_
  refine LW.q rfl (Qt.build [(0, 1), (1, 1), (2, 1), (3, 1), (4, 1), (5, 1)] [.int .i64 0, .slice none 0 0, .int .i64 0, .int .i64 0, .bool false, .bool false] [_, _, _, _, _, _] [(0, _), (1, _)] (by kernel_rfl) (by unfold zeroB; kernel_rfl) rfl rfl) ?_
  refine LW.q rfl (Qt.nilCheck rfl) ?_
  refine LW.e0 rfl (Ef.store (fmC ⟨page, 0, 0, false, false, some ⟨gy, 0, none⟩, cy, dat⟩) (by kernel_rfl) rfl rfl (by simp only [fmC, hrl]; rfl) rfl (by simp) ?_)
  rw [fm_splice (Fs := [{ x with used := false }]) (i := 0) (by simp), List.set_cons_zero]
  have h2 : ([⟨page, 0, 0, false, false, some ⟨gy, 0, none⟩, cy, dat⟩] : List Fm)[0]? = some ⟨page, 0, 0, false, false, some ⟨gy, 0, none⟩, cy, dat⟩ := rfl
  refine LW.done ?_
  refine T.seq ?_
  refine T.region ?_
  refine LW.q rfl (Qt.move rfl) ?_
  refine LW.q rfl (Qt.nilCheck rfl) ?_
  refine LW.q rfl (Qt.fieldAddr (off := 3) (by kernel_rfl) rfl) ?_
  refine LW.q rfl (Qt.load (v := .int .i64 0) (by kernel_rfl) rfl (fm_at h2 3 (by omega))) ?_
  refine LW.q rfl (Qt.add rfl rfl (wr64 (by omega) (by omega))) ?_
  refine LW.q rfl (Qt.nilCheck rfl) ?_
  refine LW.q rfl (Qt.fieldAddr (off := 3) (by kernel_rfl) rfl) ?_
  refine LW.e0 rfl (Ef.store1 (by kernel_rfl) rfl rfl rfl (by simp) ?_)
  rw [fm_set (y := ⟨page, 0, 1, false, false, some ⟨gy, 0, none⟩, cy, dat⟩) h2 3 (by omega) (.int .i64 (0 + 1)) rfl, List.set_cons_zero]
  have h3 : ([⟨page, 0, 1, false, false, some ⟨gy, 0, none⟩, cy, dat⟩] : List Fm)[0]? = some ⟨page, 0, 1, false, false, some ⟨gy, 0, none⟩, cy, dat⟩ := rfl
  refine LW.done ?_
  refine T.seq ?_
  refine T.region ?_
  refine LW.q rfl (Qt.move rfl) ?_
  refine LW.q rfl (Qt.nilCheck rfl) ?_
  refine LW.q rfl (Qt.fieldAddr (off := 5) (by kernel_rfl) rfl) ?_
  refine LW.e0 rfl (Ef.store1 (by kernel_rfl) rfl rfl rfl (by simp) ?_)
  rw [fm_set (y := fmNew page (some ⟨gy, 0, none⟩) cy dat) h3 5 (by omega) _ rfl, List.set_cons_zero]
  refine LW.done ?_
  refine T.seq ?_
  refine T.region ?_
  refine LW.q rfl (Qt.assign rfl) ?_
  refine LW.done ?_
  refine T.ret ?_
  exact ⟨.inl rfl, _, _, res [_] rfl ⟨rvT rfl, trivial⟩, ⟨gy, cy, rfl, rfl⟩, Sub.any⟩

set_option maxHeartbeats 1000000 in
set_option maxRecDepth 100000 in
theorem Bf.full (B : Base) (x : UInt8) (i : Int) (hi : i = x.toNat) : Fn Tryd.prog B 20 #[.int .u8 i] [] (fun u l => ∃ g, u = .slice (some ⟨g, 0, none⟩) 256 256 ∧ l = [rB (.slice (some ⟨g, 0, none⟩) 256 256) 256 (List.replicate 256 x)]) := by
 subst hi
 refine Fn.enter1 17 Tryd.func20 rfl rfl (Nat.le_of_ble_eq_true rfl) (fun F => ?_)
 try simp only [List.cons_append, List.nil_append]
 refine T.seq ?_
 refine T.region ?_
 refine LW.q rfl (Qt.assign rfl) ?_
 refine LW.done ?_
 refine T.seq ?_
 refine T.region ?_
 refine LW.e rfl (Ef.make 256 (.int .u8 0) 1 Cd.elemB (by kernel_rfl) rfl rfl rfl rfl (by omega) (by unfold maxLen; omega) ?_)
 rintro g5
 try simp only [List.cons_append, List.nil_append]
 rw [made_bytes]
 refine LW.q rfl (Qt.assign rfl) ?_
 refine LW.done ?_
 refine T.seq ?_
 refine T.seq ?_
 refine T.region ?_
 refine LW.q rfl (Qt.move rfl) ?_
 refine LW.q rfl (Qt.len (e := 5) (sz := 1) (by kernel_rfl) rfl) ?_
 refine LW.q rfl (Qt.move rfl) ?_
 refine LW.done ?_
 refine T.block ?_
 refine T.loop (fun mz fz lz => ∃ (f0 : Fr) (k : Nat) (acc : List UInt8), (k ≤ 256 ∧ acc = List.replicate k x ++ List.replicate (256 - k) 0) ∧ mz = 256 - k ∧ fz = (upd (upd (upd (upd f0 0 (.int .u8 x.toNat)) 3 (.slice (some ⟨g5, 0, none⟩) 256 256)) 7 (.int .i64 256)) 8 (.int .i64 k)) ∧ lz = rB (.slice (some ⟨g5, 0, none⟩) 256 256) 256 acc :: F) ?_ ?_
 · refine ⟨_, _, ⟨_, 0, List.replicate 256 0, ⟨Nat.zero_le _, by simp⟩, rfl, (updS rfl (updS rfl (updS rfl (updS rfl rfl)))), rfl⟩, Sub.any⟩
 ·
  rintro mz fz lz ⟨f0, k, acc, ⟨hk, hacc⟩, hmz, rfl, rfl⟩
  subst mz
  try simp only [List.cons_append, List.nil_append]
  have hl : acc.length = 256 := by rw [hacc]; simp; omega
  refine T.seq ?_
  refine T.region ?_
  refine LW.q rfl (Qt.lss rfl rfl) ?_
  refine LW.done ?_
  refine T.seq ?_
  refine T.condP rfl (fun hlt => ?_) (fun hlt => ?_)
  ·
   refine T.skip ?_
   refine T.seq ?_
   refine T.block ?_
   refine T.seq ?_
   refine T.region ?_
   refine LW.q rfl (Qt.move rfl) ?_
   refine LW.q rfl (Qt.assign rfl) ?_
   refine LW.done ?_
   refine T.region ?_
   refine LW.q rfl (Qt.move rfl) ?_
   refine LW.q rfl (Qt.move rfl) ?_
   refine LW.q rfl (Qt.move rfl) ?_
   refine LW.q rfl (Qt.index _ (e := 5) (sz := 1) (by kernel_rfl) rfl rfl rfl (by omega)) ?_
   refine LW.e0 rfl (Ef.store1 (by kernel_rfl) rfl rfl rfl (by first | (simp; done) | (simp; omega)) ?_)
   try simp only [List.set_cons_zero, List.set_cons_succ]
   rw [bytes_set acc k x]
   refine LW.done ?_
   refine T.region ?_
   refine LW.q rfl (Qt.add rfl rfl (wr64 (by omega) (by omega))) ?_
   refine LW.q rfl (Qt.move rfl) ?_
   refine LW.done ?_
   refine ⟨_, ?_, _, ⟨_, k + 1, acc.set k x, ⟨by omega, by rw [hacc, List.set_append_right _ _ (by simp), List.length_replicate, Nat.sub_self, show 256 - k = (256 - (k + 1)) + 1 by omega, List.replicate_succ, List.set_cons_zero, List.replicate_succ' (n := k), List.append_assoc]; rfl⟩, rfl, (updS rfl (updS rfl (updS rfl (updS rfl rfl)))), rfl⟩, Sub.any⟩
   first | omega | (simp; omega)
  ·
   obtain rfl : k = 256 := by omega
   rw [show acc = List.replicate 256 x by rw [hacc]; simp]
   refine T.exit ?_
   refine T.seq ?_
   refine T.region ?_
   refine LW.q rfl (Qt.move rfl) ?_
   refine LW.q rfl (Qt.assign rfl) ?_
   refine LW.done ?_
   refine T.ret ?_
   exact ⟨.inl rfl, _, _, res [_] rfl ⟨rvT rfl, trivial⟩, ⟨g5, rfl, rfl⟩, Sub.any⟩

/-- What laid leaves. -/
def LaidR (n : Nat) (u : Value) (l : List Assn) : Prop := ∃ gb b gl g gf pl cl D, u = .pointer (some ⟨gb, 0, none⟩) ∧ D.Ok ∧ D.secs.length = 12 ∧ D.pend = [] ∧ (∀ x, 0 ≤ x → x < 12 → D.read x = List.replicate 256 0) ∧
  l = [blk gb [.pointer (some ⟨b, 0, none⟩), .pointer (some ⟨gl, 0, none⟩), .pointer (some ⟨g, 0, none⟩)] 46, poolB g b gf n 4 8 0 pl 1 cl, fmR gf n (List.replicate n fm1), lgR pl 1 cl [ifW gl], wlA gl b (mkW 0 4 [] 0), dskA b D]
set_option maxHeartbeats 2000000 in
set_option maxRecDepth 100000 in
theorem Bf.laid (B : Base) (n : Nat) (i : Int) (hi : i = n) (h1 : 1 ≤ n) (h2 : n ≤ 4096) : Fn Tryd.prog B 14 #[.int .i64 i] [] (LaidR n) := by
  subst hi
  refine Fn.enter1 44 Tryd.func14 rfl rfl (Nat.le_of_ble_eq_true rfl) (fun F => ?_)
  try simp only [List.cons_append, List.nil_append]
  refine T.seq ?_
  refine T.region ?_
  refine LW.q rfl (Qt.assign rfl) ?_
  refine LW.done ?_
  refine T.seq ?_
  refine T.region ?_
  refine LW.e rfl (Ef.call (Dk.newF B 12 12 rfl (by omega) (by omega)) Tryd.func9 rfl rfl rfl ?_)
  rintro _ _ ⟨b, rfl, rfl⟩
  try simp only [List.cons_append, List.nil_append]
  refine LW.q rfl (Qt.move rfl) ?_
  refine LW.q rfl (Qt.extract rfl rfl) ?_
  refine LW.q rfl (Qt.extract rfl rfl) ?_
  refine LW.q rfl (Qt.assign rfl) ?_
  refine LW.q rfl (Qt.assign rfl) ?_
  refine LW.done ?_
  refine T.seq ?_
  refine T.seq ?_
  refine T.region ?_
  refine LW.q rfl (Qt.move rfl) ?_
  first | refine LW.q rfl (Qt.eqlNil (by kernel_rfl) rfl rfl) ?_ | refine LW.q rfl (Qt.eqlNN (by kernel_rfl) rfl rfl) ?_
  refine LW.done ?_
  first | refine T.condF rfl ?_ | refine T.condPF rfl (by omega) ?_ | refine T.condBF rfl (by omega) ?_
  refine T.skip ?_
  refine T.seq ?_
  refine T.region ?_
  refine LW.q rfl (Qt.move rfl) ?_
  refine LW.e rfl (Ef.call (Wl.openText B b ⟨List.replicate 12 zs, []⟩ 0 4 [] 0 4 rfl rfl (by omega) (by simp) (by simp) (Secs.new (by omega)) (by simp) (by simp [logB])) Tryd.func33 rfl rfl rfl ?_)
  rintro _ _ ⟨gl, q, cq, R, D1, e1, e2, e3, e4, e5, e6, rfl, rfl⟩
  try simp only [List.cons_append, List.nil_append]
  rw [show (logB 0 0 []).length = 0 from rfl]
  have hl1 : D1.secs.length = 12 := by rw [e3]; rfl
  refine LW.q rfl (Qt.move rfl) ?_
  refine LW.q rfl (Qt.extract rfl rfl) ?_
  refine LW.q rfl (Qt.extract rfl rfl) ?_
  refine LW.q rfl (Qt.extract rfl rfl) ?_
  refine LW.q rfl (Qt.assign rfl) ?_
  refine LW.q rfl (Qt.assign rfl) ?_
  refine LW.q rfl (Qt.assign rfl) ?_
  refine LW.done ?_
  refine T.seq ?_
  refine T.seq ?_
  refine T.region ?_
  refine LW.q rfl (Qt.move rfl) ?_
  first | refine LW.q rfl (Qt.eqlNil (by kernel_rfl) rfl rfl) ?_ | refine LW.q rfl (Qt.eqlNN (by kernel_rfl) rfl rfl) ?_
  refine LW.done ?_
  first | refine T.condF rfl ?_ | refine T.condPF rfl (by omega) ?_ | refine T.condBF rfl (by omega) ?_
  refine T.skip ?_
  refine T.seq ?_
  refine T.region ?_
  refine LW.q rfl (Qt.move rfl) ?_
  refine LW.q rfl (Qt.move rfl) ?_
  refine LW.q rfl (Qt.move rfl) ?_
  refine LW.q rfl (Qt.iface (v := .pointer (some ⟨gl, 0, none⟩)) (by kernel_rfl) rfl) ?_
  refine LW.e rfl (Ef.one [_] (e := 79) (sz := 1) (by kernel_rfl) ⟨.nilIface, by kernel_rfl, rfl⟩ rfl rfl rfl (by omega) (by omega) ?_)
  intro g29
  refine LW.e rfl (Ef.call (Bf.new B [blk g29 [ifW gl] 79] b D1 4 8 n 4 8 n rfl rfl rfl (.slice (some ⟨g29, 0, none⟩) 1 1) [ifW gl] (by omega) (by omega) (by omega) h1 h2 ⟨_, 1, rfl, .inr ⟨g29, 0, rfl, fun w ho => ho.range (g := g29) (C := [ifW gl]) (fun j u hj => by rw [Nat.zero_add]; exact hj)⟩⟩ (by simp [Value.oneCell']) (by simp)) Tryd.func10 rfl rfl rfl ?_)
  rintro _ _ ⟨g, gf, pl, cl, rfl, rfl⟩
  try simp only [List.cons_append, List.nil_append]
  rw [show [ifW gl].length = 1 from rfl]
  refine LW.q rfl (Qt.move rfl) ?_
  refine LW.q rfl (Qt.extract rfl rfl) ?_
  refine LW.q rfl (Qt.extract rfl rfl) ?_
  refine LW.q rfl (Qt.assign rfl) ?_
  refine LW.q rfl (Qt.assign rfl) ?_
  refine LW.done ?_
  refine T.seq ?_
  refine T.seq ?_
  refine T.region ?_
  refine LW.q rfl (Qt.move rfl) ?_
  first | refine LW.q rfl (Qt.eqlNil (by kernel_rfl) rfl rfl) ?_ | refine LW.q rfl (Qt.eqlNN (by kernel_rfl) rfl rfl) ?_
  refine LW.q rfl (Qt.move rfl) ?_
  first | refine LW.gF (t := 35) rfl rfl ?_ | refine LW.gF (t := 35) rfl (decide_eq_false (by omega)) ?_ | refine LW.gF (t := 35) rfl (by omega) ?_
  refine LW.q rfl (Qt.move rfl) ?_
  refine LW.q rfl (Qt.neq rfl rfl) ?_
  refine LW.q rfl (Qt.pick rfl rfl) ?_
  refine LW.done ?_
  first | refine T.condF rfl ?_ | refine T.condPF rfl (by omega) ?_ | refine T.condBF rfl (by omega) ?_
  refine T.skip ?_
  refine T.seq ?_
  refine T.region ?_
  refine LW.q rfl (Qt.move rfl) ?_
  refine LW.q rfl (Qt.move rfl) ?_
  refine LW.q rfl (Qt.move rfl) ?_
  refine LW.q rfl (Qt.build [(0, 1), (1, 1), (2, 1)] [.pointer none, .pointer none, .pointer none] [_, _, _] [(0, _), (1, _), (2, _)] (by kernel_rfl) (by unfold zeroB; kernel_rfl) rfl rfl) ?_
  refine LW.e rfl (Ef.box [.pointer (some ⟨b, 0, none⟩), .pointer (some ⟨gl, 0, none⟩), .pointer (some ⟨g, 0, none⟩)] rfl rfl ?_)
  intro g43
  refine LW.q rfl (Qt.assign rfl) ?_
  refine LW.done ?_
  refine T.ret ?_
  exact ⟨.inl rfl, _, _, res [_] rfl ⟨rvT rfl, trivial⟩, ⟨_, b, gl, g, gf, pl, cl, D1, rfl, e2, hl1, e4, fun x _ h12 => by by_cases h4 : 4 ≤ x; (rw [e6 x (by simp; omega) (by omega)]; exact DD.new_read h12); (have := e5 x (by omega); rw [Nat.zero_add] at this; rw [this]; have h2 := (Secs.new (n := 12) (first := 0) (count := 4) (by omega)) x (by omega); rw [Nat.zero_add] at h2; exact h2.symm.trans (DD.new_read h12)), rfl⟩, Sub.any⟩

set_option maxHeartbeats 8000000 in
set_option maxRecDepth 100000 in
theorem Bf.awake (B : Base) : Fn Tryd.prog B 8 #[] [] (fun v l => v = .bool true ∧ l = []) := by
  refine Fn.enter0 98 Tryd.func8 rfl rfl (Nat.le_of_ble_eq_true rfl) (fun F => ?_)
  try simp only [List.cons_append, List.nil_append]
  refine T.seq ?_
  refine T.region ?_
  refine LW.q rfl (Qt.assign rfl) ?_
  refine LW.done ?_
  refine T.seq ?_
  refine T.region ?_
  refine LW.e rfl (Ef.call (Bf.laid B 1 1 rfl (by omega) (by omega)) Tryd.func14 rfl rfl rfl ?_)
  rintro _ _ ⟨gb, b, gl, g, gf, pl, cl, D, rfl, ho, hl, hp, hz, rfl⟩
  try simp only [List.cons_append, List.nil_append]
  rw [show List.replicate 1 fm1 = [fm1] from rfl]
  refine LW.q rfl (Qt.assign rfl) ?_
  refine LW.done ?_
  refine T.seq ?_
  refine T.seq ?_
  have r6 : D.read (4 + 2) = List.replicate 256 0 := hz 6 (by omega) (by omega)
  have r7 : D.read (4 + 3) = List.replicate 256 0 := hz 7 (by omega) (by omega)
  have hW : (mkW 0 4 [] 0).dur = 0 := rfl
  refine T.draw 35 ([blk gb [.pointer (some ⟨b, 0, none⟩), .pointer (some ⟨gl, 0, none⟩), .pointer (some ⟨g, 0, none⟩)] 46]) (by kernel_rfl) (Nat.le_of_ble_eq_true rfl) (by kernel_rfl) ?_
  refine RW.q 0 rfl rfl (by kernel_rfl) Sub.any (Qt.move rfl) ?_
  first | refine RW.q 1 rfl rfl (by kernel_rfl) Sub.any (Qt.eqlNil (by kernel_rfl) rfl rfl) ?_ | refine RW.q 1 rfl rfl (by kernel_rfl) Sub.any (Qt.eqlNN (by kernel_rfl) rfl rfl) ?_
  refine RW.q 2 rfl rfl (by kernel_rfl) Sub.any (Qt.move rfl) ?_
  first | refine RW.gF (t := 7) rfl rfl ?_ | refine RW.gF (t := 7) rfl (decide_eq_false (by omega)) ?_ | refine RW.gF (t := 7) rfl (by omega) ?_
  refine RW.q 3 rfl rfl (by kernel_rfl) Sub.any (Qt.move rfl) ?_
  refine RW.q 4 rfl rfl (by kernel_rfl) Sub.any (Qt.nilCheck rfl) ?_
  refine RW.q 5 rfl rfl (by kernel_rfl) Sub.any (Qt.fieldAddr (off := 2) (by kernel_rfl) rfl) ?_
  first | refine RW.q 6 rfl rfl (by kernel_rfl) Sub.any (Qt.load (by kernel_rfl) rfl rfl) ?_ | refine RW.q 6 rfl rfl (by kernel_rfl) Sub.any (Qt.load (by kernel_rfl) rfl (map_at _ _ _ (by omega))) ?_ | refine RW.q 6 rfl rfl (by kernel_rfl) Sub.any (Qt.load (by kernel_rfl) rfl (flat_cell0 _ _ _ (by intros; rfl) _ (by omega) (by rfl))) ?_ | refine RW.q 6 rfl rfl (by kernel_rfl) Sub.any (Qt.load (by kernel_rfl) rfl (flat_cell _ _ _ (by intros; rfl) _ _ (by omega) (by rfl))) ?_ | refine RW.q 6 rfl rfl (by kernel_rfl) Sub.any (Qt.load (by kernel_rfl) rfl (bytes_at _ _ (by omega))) ?_
  refine RW.one 7 (by kernel_rfl) ?_
  refine RO.eS rfl rfl (Ef.call (Bf.pin_free B g b gf 1 4 8 0 pl 1 cl [fm1] D 2 2 rfl (by omega) rfl (by omega) (fun k y hk => by rw [one_at hk]; decide) 0 fm1 rfl (by decide) (fun k hk => by omega) (by omega) (by omega) (by rw [hp]; simp) (by rw [r6]; simp)) Tryd.func15 rfl rfl rfl ?_)
  rintro _ _ ⟨gx, cx, rfl, rfl⟩
  try simp only [List.cons_append, List.nil_append]
  rw [r6, List.set_cons_zero]
  refine ⟨Sub.any, ?_⟩
  refine RW.q 8 rfl rfl (by kernel_rfl) Sub.any (Qt.neq rfl rfl) ?_
  refine RW.q 9 rfl rfl (by kernel_rfl) Sub.any (Qt.pick rfl rfl) ?_
  refine RW.q 10 rfl rfl (by kernel_rfl) Sub.any (Qt.move rfl) ?_
  first | refine RW.gF (t := 15) rfl rfl ?_ | refine RW.gF (t := 15) rfl (decide_eq_false (by omega)) ?_ | refine RW.gF (t := 15) rfl (by omega) ?_
  refine RW.q 11 rfl rfl (by kernel_rfl) Sub.any (Qt.move rfl) ?_
  refine RW.q 12 rfl rfl (by kernel_rfl) Sub.any (Qt.nilCheck rfl) ?_
  refine RW.q 13 rfl rfl (by kernel_rfl) Sub.any (Qt.fieldAddr (off := 2) (by kernel_rfl) rfl) ?_
  first | refine RW.q 14 rfl rfl (by kernel_rfl) Sub.any (Qt.load (by kernel_rfl) rfl rfl) ?_ | refine RW.q 14 rfl rfl (by kernel_rfl) Sub.any (Qt.load (by kernel_rfl) rfl (map_at _ _ _ (by omega))) ?_ | refine RW.q 14 rfl rfl (by kernel_rfl) Sub.any (Qt.load (by kernel_rfl) rfl (flat_cell0 _ _ _ (by intros; rfl) _ (by omega) (by rfl))) ?_ | refine RW.q 14 rfl rfl (by kernel_rfl) Sub.any (Qt.load (by kernel_rfl) rfl (flat_cell _ _ _ (by intros; rfl) _ _ (by omega) (by rfl))) ?_ | refine RW.q 14 rfl rfl (by kernel_rfl) Sub.any (Qt.load (by kernel_rfl) rfl (bytes_at _ _ (by omega))) ?_
  refine RW.one 15 (by kernel_rfl) ?_
  refine RO.eS rfl rfl (Ef.call (Bf.full B 7 7 rfl) Tryd.func20 rfl rfl rfl ?_)
  rintro _ _ ⟨g7, rfl, rfl⟩
  try simp only [List.cons_append, List.nil_append]
  refine ⟨Sub.any, ?_⟩
  refine RW.one 16 (by kernel_rfl) ?_
  refine RO.eS rfl rfl (Ef.call (Bf.put B [rB (.slice (some ⟨g7, 0, none⟩) 256 256) 256 (List.replicate 256 7)] g b gf 1 4 8 0 pl 1 cl [fmNew 2 (some ⟨gx, 0, none⟩) cx (List.replicate 256 0)] 2 0 (fmNew 2 (some ⟨gx, 0, none⟩) cx (List.replicate 256 0)) rfl (by omega) ⟨rfl, rfl, by omega, fun j hj => by omega⟩ (by show (0 : Int) < 1; omega) (some ⟨g7, 0, none⟩) 256 (List.replicate 256 7) 0 (by simp) (RdV.rB (by simp) (fun _ => ⟨_, rfl⟩))) Tryd.func16 rfl rfl rfl ?_)
  rintro _ _ ⟨p5, c5, rfl, ⟨g5, rfl⟩, rfl⟩
  try simp only [List.cons_append, List.nil_append]
  rw [List.set_cons_zero]
  refine ⟨Sub.any, ?_⟩
  refine RW.q 17 rfl rfl (by kernel_rfl) Sub.any (Qt.neq rfl rfl) ?_
  refine RW.q 18 rfl rfl (by kernel_rfl) Sub.any (Qt.pick rfl rfl) ?_
  refine RW.q 19 rfl rfl (by kernel_rfl) Sub.any (Qt.move rfl) ?_
  first | refine RW.gF (t := 24) rfl rfl ?_ | refine RW.gF (t := 24) rfl (decide_eq_false (by omega)) ?_ | refine RW.gF (t := 24) rfl (by omega) ?_
  refine RW.q 20 rfl rfl (by kernel_rfl) Sub.any (Qt.move rfl) ?_
  refine RW.q 21 rfl rfl (by kernel_rfl) Sub.any (Qt.nilCheck rfl) ?_
  refine RW.q 22 rfl rfl (by kernel_rfl) Sub.any (Qt.fieldAddr (off := 2) (by kernel_rfl) rfl) ?_
  first | refine RW.q 23 rfl rfl (by kernel_rfl) Sub.any (Qt.load (by kernel_rfl) rfl rfl) ?_ | refine RW.q 23 rfl rfl (by kernel_rfl) Sub.any (Qt.load (by kernel_rfl) rfl (map_at _ _ _ (by omega))) ?_ | refine RW.q 23 rfl rfl (by kernel_rfl) Sub.any (Qt.load (by kernel_rfl) rfl (flat_cell0 _ _ _ (by intros; rfl) _ (by omega) (by rfl))) ?_ | refine RW.q 23 rfl rfl (by kernel_rfl) Sub.any (Qt.load (by kernel_rfl) rfl (flat_cell _ _ _ (by intros; rfl) _ _ (by omega) (by rfl))) ?_ | refine RW.q 23 rfl rfl (by kernel_rfl) Sub.any (Qt.load (by kernel_rfl) rfl (bytes_at _ _ (by omega))) ?_
  refine RW.one 24 (by kernel_rfl) ?_
  refine RO.eS rfl rfl (Ef.call (Bf.unpin B g b gf 1 4 8 0 pl 1 cl [⟨2, max 0 0, 1, true, true, some ⟨g5, 0, none⟩, c5, List.replicate 256 7⟩] 2 0 ⟨2, max 0 0, 1, true, true, some ⟨g5, 0, none⟩, c5, List.replicate 256 7⟩ rfl (by omega) ⟨rfl, rfl, by omega, fun j hj => by omega⟩ (by show (0 : Int) < 1; omega) (by show (1 : Int) < _; omega)) Tryd.func22 rfl rfl rfl ?_)
  rintro _ _ ⟨rfl, rfl⟩
  try simp only [List.cons_append, List.nil_append]
  rw [List.set_cons_zero]
  refine ⟨Sub.any, ?_⟩
  refine RW.q 25 rfl rfl (by kernel_rfl) Sub.any (Qt.neq rfl rfl) ?_
  refine RW.q 26 rfl rfl (by kernel_rfl) Sub.any (Qt.pick rfl rfl) ?_
  refine RW.q 27 rfl rfl (by kernel_rfl) Sub.any (Qt.move rfl) ?_
  first | refine RW.gF (t := 32) rfl rfl ?_ | refine RW.gF (t := 32) rfl (decide_eq_false (by omega)) ?_ | refine RW.gF (t := 32) rfl (by omega) ?_
  refine RW.q 28 rfl rfl (by kernel_rfl) Sub.any (Qt.move rfl) ?_
  refine RW.q 29 rfl rfl (by kernel_rfl) Sub.any (Qt.nilCheck rfl) ?_
  refine RW.q 30 rfl rfl (by kernel_rfl) Sub.any (Qt.fieldAddr (off := 2) (by kernel_rfl) rfl) ?_
  first | refine RW.q 31 rfl rfl (by kernel_rfl) Sub.any (Qt.load (by kernel_rfl) rfl rfl) ?_ | refine RW.q 31 rfl rfl (by kernel_rfl) Sub.any (Qt.load (by kernel_rfl) rfl (map_at _ _ _ (by omega))) ?_ | refine RW.q 31 rfl rfl (by kernel_rfl) Sub.any (Qt.load (by kernel_rfl) rfl (flat_cell0 _ _ _ (by intros; rfl) _ (by omega) (by rfl))) ?_ | refine RW.q 31 rfl rfl (by kernel_rfl) Sub.any (Qt.load (by kernel_rfl) rfl (flat_cell _ _ _ (by intros; rfl) _ _ (by omega) (by rfl))) ?_ | refine RW.q 31 rfl rfl (by kernel_rfl) Sub.any (Qt.load (by kernel_rfl) rfl (bytes_at _ _ (by omega))) ?_
  refine RW.one 32 (by kernel_rfl) ?_
  refine RO.eS rfl rfl (Ef.call (Bf.pin_one B g b gf 4 8 pl cl ⟨2, max 0 0, 1 - 1, true, true, some ⟨g5, 0, none⟩, c5, List.replicate 256 7⟩ gl (mkW 0 4 [] 0) D (D.write (4 + 2) (List.replicate 256 7)) 2 rfl rfl rfl rfl (by simp) g5 c5 (List.replicate 256 7) rfl rfl rfl (by rw [hW]; omega) (by show max (0 : Int) 0 ≤ ((mkW 0 4 [] 0).dur : Int); rw [hW]; omega) (by omega) 3 3 rfl (by omega) (by omega) (by omega) (by omega) (by rw [hp]; simp) rfl (List.replicate 256 0) (by rw [DD.rdW, if_neg (by omega)]; exact r7) (by simp)) Tryd.func15 rfl rfl rfl ?_)
  rintro _ _ ⟨gy, cy, rfl, rfl⟩
  try simp only [List.cons_append, List.nil_append]
  refine ⟨Sub.any, ?_⟩
  refine RW.q 33 rfl rfl (by kernel_rfl) Sub.any (Qt.neq rfl rfl) ?_
  refine RW.q 34 rfl rfl (by kernel_rfl) Sub.any (Qt.pick rfl rfl) ?_
  refine RW.done (by rfl) ?_
  simp only [List.drop_succ_cons, List.drop_zero, List.drop_nil]
  refine LW.done ?_
  first | refine T.condF rfl ?_ | refine T.condPF rfl (by omega) ?_ | refine T.condBF rfl (by omega) ?_
  refine T.skip ?_
  refine T.seq ?_
  refine T.region ?_
  refine LW.q rfl (Qt.move rfl) ?_
  refine LW.q rfl (Qt.nilCheck rfl) ?_
  refine LW.q rfl (Qt.fieldAddr0 (by kernel_rfl) rfl) ?_
  first | refine LW.q rfl (Qt.load (by kernel_rfl) rfl rfl) ?_ | refine LW.q rfl (Qt.load (by kernel_rfl) rfl (map_at _ _ _ (by omega))) ?_ | refine LW.q rfl (Qt.load (by kernel_rfl) rfl (flat_cell0 _ _ _ (by intros; rfl) _ (by omega) (by rfl))) ?_ | refine LW.q rfl (Qt.load (by kernel_rfl) rfl (flat_cell _ _ _ (by intros; rfl) _ _ (by omega) (by rfl))) ?_ | refine LW.q rfl (Qt.load (by kernel_rfl) rfl (bytes_at _ _ (by omega))) ?_
  refine LW.e rfl (Ef.call (Dk.readF B b (D.write (4 + 2) (List.replicate 256 7)) 6 6 rfl (by show 6 < D.secs.length; omega) (by simp [DD.write, hp])) Tryd.func19 rfl rfl rfl ?_)
  rintro _ _ ⟨gr, cr, rfl, rfl⟩
  try simp only [List.cons_append, List.nil_append]
  rw [DD.rdW, if_pos rfl]
  refine LW.q rfl (Qt.move rfl) ?_
  refine LW.q rfl (Qt.extract rfl rfl) ?_
  refine LW.q rfl (Qt.extract rfl rfl) ?_
  refine LW.q rfl (Qt.assign rfl) ?_
  refine LW.q rfl (Qt.assign rfl) ?_
  refine LW.done ?_
  refine T.seq ?_
  refine T.region ?_
  refine LW.q rfl (Qt.move rfl) ?_
  refine LW.q rfl (Qt.eql rfl rfl) ?_
  refine LW.q rfl (Qt.move rfl) ?_
  first | refine LW.gT (t := 50) rfl rfl ?_ | refine LW.gT (t := 50) rfl (decide_eq_true (by omega)) ?_ | refine LW.gT (t := 50) rfl (by omega) ?_
  refine LW.q rfl (Qt.move rfl) ?_
  refine LW.q rfl (Qt.len (e := 5) (sz := 1) (by kernel_rfl) rfl) ?_
  refine LW.q rfl (Qt.eql rfl rfl) ?_
  refine LW.q rfl (Qt.pick rfl rfl) ?_
  refine LW.q rfl (Qt.move rfl) ?_
  first | refine LW.gT (t := 55) rfl rfl ?_ | refine LW.gT (t := 55) rfl (decide_eq_true (by omega)) ?_ | refine LW.gT (t := 55) rfl (by omega) ?_
  refine LW.q rfl (Qt.move rfl) ?_
  refine LW.q rfl (Qt.index 5 (e := 5) (sz := 1) (by kernel_rfl) rfl rfl rfl (by omega)) ?_
  refine LW.q rfl (Qt.load (v := .int .u8 (7 : UInt8).toNat) (by kernel_rfl) rfl (bytes_get (l := List.replicate 256 7) (j := 5) (by simp))) ?_
  refine LW.q rfl (Qt.eql rfl rfl) ?_
  refine LW.q rfl (Qt.pick rfl rfl) ?_
  refine LW.q rfl (Qt.move rfl) ?_
  first | refine LW.gT (t := 61) rfl rfl ?_ | refine LW.gT (t := 61) rfl (decide_eq_true (by omega)) ?_ | refine LW.gT (t := 61) rfl (by omega) ?_
  refine LW.q rfl (Qt.move rfl) ?_
  refine LW.q rfl (Qt.nilCheck rfl) ?_
  refine LW.q rfl (Qt.fieldAddr (off := 2) (by kernel_rfl) rfl) ?_
  first | refine LW.q rfl (Qt.load (by kernel_rfl) rfl rfl) ?_ | refine LW.q rfl (Qt.load (by kernel_rfl) rfl (map_at _ _ _ (by omega))) ?_ | refine LW.q rfl (Qt.load (by kernel_rfl) rfl (flat_cell0 _ _ _ (by intros; rfl) _ (by omega) (by rfl))) ?_ | refine LW.q rfl (Qt.load (by kernel_rfl) rfl (flat_cell _ _ _ (by intros; rfl) _ _ (by omega) (by rfl))) ?_ | refine LW.q rfl (Qt.load (by kernel_rfl) rfl (bytes_at _ _ (by omega))) ?_
  refine LW.e rfl (Ef.call (Bf.frames B g b gf 1 4 8 0 pl 1 cl [fmNew 3 (some ⟨gy, 0, none⟩) cy (List.replicate 256 0)] rfl (by omega)) Tryd.func13 rfl rfl rfl ?_)
  rintro _ _ ⟨p8, c8, rfl, rfl⟩
  try simp only [List.cons_append, List.nil_append]
  refine LW.q rfl (Qt.len (e := 3) (sz := 1) (by kernel_rfl) rfl) ?_
  refine LW.q rfl (Qt.eql rfl rfl) ?_
  refine LW.q rfl (Qt.pick rfl rfl) ?_
  refine LW.q rfl (Qt.move rfl) ?_
  first | refine LW.gT (t := 70) rfl rfl ?_ | refine LW.gT (t := 70) rfl (decide_eq_true (by omega)) ?_ | refine LW.gT (t := 70) rfl (by omega) ?_
  refine LW.q rfl (Qt.move rfl) ?_
  refine LW.q rfl (Qt.nilCheck rfl) ?_
  refine LW.q rfl (Qt.fieldAddr (off := 2) (by kernel_rfl) rfl) ?_
  first | refine LW.q rfl (Qt.load (by kernel_rfl) rfl rfl) ?_ | refine LW.q rfl (Qt.load (by kernel_rfl) rfl (map_at _ _ _ (by omega))) ?_ | refine LW.q rfl (Qt.load (by kernel_rfl) rfl (flat_cell0 _ _ _ (by intros; rfl) _ (by omega) (by rfl))) ?_ | refine LW.q rfl (Qt.load (by kernel_rfl) rfl (flat_cell _ _ _ (by intros; rfl) _ _ (by omega) (by rfl))) ?_ | refine LW.q rfl (Qt.load (by kernel_rfl) rfl (bytes_at _ _ (by omega))) ?_
  refine LW.e rfl (Ef.call (Bf.frames B g b gf 1 4 8 0 pl 1 cl [fmNew 3 (some ⟨gy, 0, none⟩) cy (List.replicate 256 0)] rfl (by omega)) Tryd.func13 rfl rfl rfl ?_)
  rintro _ _ ⟨p9, c9, rfl, rfl⟩
  try simp only [List.cons_append, List.nil_append]
  refine LW.own (fun w ho => ?_)
  obtain ⟨g9, rfl⟩ : ∃ g9, p9 = some ⟨g9, 0, none⟩ := (ho.slice_at (p := p9) (m := 1) (c := c9)).2.1 (by omega)
  clear ho
  refine LW.q rfl (Qt.index 0 (e := 3) (sz := 1) (by kernel_rfl) rfl rfl rfl (by omega)) ?_
  first | refine LW.q rfl (Qt.load (by kernel_rfl) rfl rfl) ?_ | refine LW.q rfl (Qt.load (by kernel_rfl) rfl (map_at _ _ _ (by omega))) ?_ | refine LW.q rfl (Qt.load (by kernel_rfl) rfl (flat_cell0 _ _ _ (by intros; rfl) _ (by omega) (by rfl))) ?_ | refine LW.q rfl (Qt.load (by kernel_rfl) rfl (flat_cell _ _ _ (by intros; rfl) _ _ (by omega) (by rfl))) ?_ | refine LW.q rfl (Qt.load (by kernel_rfl) rfl (bytes_at _ _ (by omega))) ?_
  refine LW.q rfl (Qt.eql rfl rfl) ?_
  refine LW.q rfl (Qt.pick rfl rfl) ?_
  refine LW.q rfl (Qt.move rfl) ?_
  first | refine LW.gT (t := 80) rfl rfl ?_ | refine LW.gT (t := 80) rfl (decide_eq_true (by omega)) ?_ | refine LW.gT (t := 80) rfl (by omega) ?_
  refine LW.q rfl (Qt.move rfl) ?_
  refine LW.q rfl (Qt.nilCheck rfl) ?_
  refine LW.q rfl (Qt.fieldAddr (off := 2) (by kernel_rfl) rfl) ?_
  first | refine LW.q rfl (Qt.load (by kernel_rfl) rfl rfl) ?_ | refine LW.q rfl (Qt.load (by kernel_rfl) rfl (map_at _ _ _ (by omega))) ?_ | refine LW.q rfl (Qt.load (by kernel_rfl) rfl (flat_cell0 _ _ _ (by intros; rfl) _ (by omega) (by rfl))) ?_ | refine LW.q rfl (Qt.load (by kernel_rfl) rfl (flat_cell _ _ _ (by intros; rfl) _ _ (by omega) (by rfl))) ?_ | refine LW.q rfl (Qt.load (by kernel_rfl) rfl (bytes_at _ _ (by omega))) ?_
  refine LW.e rfl (Ef.call (Bf.pin_full B g b gf 1 4 8 0 pl 1 cl [fmNew 3 (some ⟨gy, 0, none⟩) cy (List.replicate 256 0)] 2 (by omega) (by omega) rfl (by omega) (fun k y hk => by rw [one_at hk]; show (3 : Int) ≠ 2; decide) (fun k y hk => by rw [one_at hk]; exact ⟨show (0 : Int) ≤ 3 by omega, show (0 : Int) < 1 by omega⟩)) Tryd.func15 rfl rfl rfl ?_)
  rintro _ _ ⟨rfl, rfl⟩
  try simp only [List.cons_append, List.nil_append]
  refine LW.q rfl (Qt.eql rfl rfl) ?_
  refine LW.q rfl (Qt.pick rfl rfl) ?_
  refine LW.q rfl (Qt.move rfl) ?_
  first | refine LW.gT (t := 88) rfl rfl ?_ | refine LW.gT (t := 88) rfl (decide_eq_true (by omega)) ?_ | refine LW.gT (t := 88) rfl (by omega) ?_
  refine LW.q rfl (Qt.move rfl) ?_
  refine LW.q rfl (Qt.nilCheck rfl) ?_
  refine LW.q rfl (Qt.fieldAddr (off := 2) (by kernel_rfl) rfl) ?_
  first | refine LW.q rfl (Qt.load (by kernel_rfl) rfl rfl) ?_ | refine LW.q rfl (Qt.load (by kernel_rfl) rfl (map_at _ _ _ (by omega))) ?_ | refine LW.q rfl (Qt.load (by kernel_rfl) rfl (flat_cell0 _ _ _ (by intros; rfl) _ (by omega) (by rfl))) ?_ | refine LW.q rfl (Qt.load (by kernel_rfl) rfl (flat_cell _ _ _ (by intros; rfl) _ _ (by omega) (by rfl))) ?_ | refine LW.q rfl (Qt.load (by kernel_rfl) rfl (bytes_at _ _ (by omega))) ?_
  refine LW.q rfl (Qt.nilCheck rfl) ?_
  refine LW.q rfl (Qt.fieldAddr0 (by kernel_rfl) rfl) ?_
  refine LW.e rfl (Ef.call (Bf.pages B g b gf 1 4 8 0 pl 1 cl) Tryd.func12 rfl rfl rfl ?_)
  rintro _ _ ⟨rfl, rfl⟩
  try simp only [List.cons_append, List.nil_append]
  refine LW.q rfl (Qt.eql rfl rfl) ?_
  refine LW.q rfl (Qt.pick rfl rfl) ?_
  refine LW.q rfl (Qt.assign rfl) ?_
  refine LW.done ?_
  refine T.ret ?_
  exact ⟨.inl rfl, _, _, res [_] rfl ⟨rvT rfl, trivial⟩, ⟨rfl, rfl⟩, Sub.any⟩
end Go.Proofs.YtegohgaccmkigaaDoor

/- The package buffer: Unpin, Bytes, Put over a pool as a whole; a new pool; the statements' laid. Conditions: sizes; the frames are in order. -/
set_option linter.unusedSimpArgs false
set_option linter.unusedVariables false
namespace Go.Proofs.YtegohgaccmkigaaDoor
open Go.RowKit

theorem pinnedA_some {A : List Fa} {page : Int} {i : Nat} {x : Fa} (h : pinnedA A page = some (i, x)) : findA A page = some i ∧ A[i]? = some x ∧ 0 < x.pins := by
  unfold pinnedA at h
  split at h
  · cases h
  · rename_i j hj
    split at h
    · cases h
    · rename_i y hy
      split at h
      · simp only [Option.some.injEq, Prod.mk.injEq] at h
        obtain ⟨rfl, rfl⟩ := h
        exact ⟨hj, hy, by assumption⟩
      · cases h
theorem pinnedA_none {A : List Fa} {page : Int} (h : pinnedA A page = none) : findA A page = none ∨ ∃ i x, findA A page = some i ∧ A[i]? = some x ∧ ¬ 0 < x.pins := by
  unfold pinnedA at h
  split at h
  · rename_i hj; exact .inl hj
  · rename_i j hj
    obtain ⟨_, x, hx, _⟩ := findA_some hj
    rw [hx] at h
    dsimp only at h
    split at h
    · cases h
    · rename_i hp; exact .inr ⟨j, x, hj, hx, hp⟩

set_option maxHeartbeats 1000000 in
set_option maxRecDepth 100000 in
theorem Bf.pinned_low (B : Base) (g b gf n first count hand : Nat) (pl : Option Addr) (nl cl : Nat) (Fs : List Fm) (page : Int) (i : Nat) (x : Fm) (hn : Fs.length = n) (hn2 : n ≤ 4096) (hx : Fd Fs page i x) (hpin : ¬ 0 < x.pins) :
    Fn Tryd.prog B 36 #[.pointer (some ⟨g, 0, none⟩), .int .i64 page] [poolB g b gf n first count hand pl nl cl, fmR gf n Fs] (fun u l => u = .pointer none ∧ l = [poolB g b gf n first count hand pl nl cl, fmR gf n Fs]) := by
  refine Fn.enter2 19 Tryd.func36 rfl rfl (Nat.le_of_ble_eq_true rfl) (fun F => ?_)
  try simp only [List.cons_append, List.nil_append]
  refine T.seq ?_
  refine T.region ?_
  refine LW.q rfl (Qt.assign rfl) ?_
  refine LW.done ?_
  refine T.seq ?_
  refine T.seq ?_
  refine T.region ?_
  refine LW.q rfl (Qt.move rfl) ?_
  refine LW.q rfl (Qt.move rfl) ?_
  refine LW.e rfl (Ef.call (Bf.find_some B g b gf n first count hand pl nl cl Fs page i x hn hn2 hx.at_ hx.pg hx.pos hx.first) Tryd.func34 rfl rfl rfl ?_)
  rintro _ _ ⟨rfl, rfl⟩
  try simp only [List.cons_append, List.nil_append]
  refine LW.q rfl (Qt.assign rfl) ?_
  refine LW.done ?_
  refine T.seq ?_
  refine T.region ?_
  refine LW.q rfl (Qt.move rfl) ?_
  first | refine LW.q rfl (Qt.neqNil (by kernel_rfl) rfl rfl) ?_ | refine LW.q rfl (Qt.neqNN (by kernel_rfl) rfl rfl) ?_
  refine LW.q rfl (Qt.move rfl) ?_
  first | refine LW.gT (t := 11) rfl rfl ?_ | refine LW.gT (t := 11) rfl (decide_eq_true (by omega)) ?_ | refine LW.gT (t := 11) rfl (by omega) ?_
  refine LW.q rfl (Qt.move rfl) ?_
  refine LW.q rfl (Qt.nilCheck rfl) ?_
  refine LW.q rfl (Qt.fieldAddr (off := 3) (by kernel_rfl) rfl) ?_
  refine LW.q rfl (Qt.load (v := .int .i64 x.pins) (by kernel_rfl) rfl (fm_at hx.at_ 3 (by omega))) ?_
  refine LW.q rfl (Qt.gtr rfl rfl) ?_
  refine LW.q rfl (Qt.pick rfl rfl) ?_
  refine LW.done ?_
  first | refine T.condF rfl ?_ | refine T.condPF rfl (by omega) ?_ | refine T.condBF rfl (by omega) ?_
  refine T.skip ?_
  refine T.seq ?_
  refine T.region ?_
  refine LW.q rfl (Qt.assign rfl) ?_
  refine LW.done ?_
  refine T.ret ?_
  exact ⟨.inl rfl, _, _, res [_] rfl ⟨rvT rfl, trivial⟩, ⟨rfl, rfl⟩, Sub.any⟩
set_option maxHeartbeats 1000000 in
set_option maxRecDepth 100000 in
theorem Bf.pinned_miss (B : Base) (g b gf n first count hand : Nat) (pl : Option Addr) (nl cl : Nat) (Fs : List Fm) (page : Int) (hn : Fs.length = n) (hn2 : n ≤ 4096) (hno : ∀ (j : Nat) (y : Fm), Fs[j]? = some y → y.page = page → page < 0) :
    Fn Tryd.prog B 36 #[.pointer (some ⟨g, 0, none⟩), .int .i64 page] [poolB g b gf n first count hand pl nl cl, fmR gf n Fs] (fun u l => u = .pointer none ∧ l = [poolB g b gf n first count hand pl nl cl, fmR gf n Fs]) := by
  refine Fn.enter2 19 Tryd.func36 rfl rfl (Nat.le_of_ble_eq_true rfl) (fun F => ?_)
  try simp only [List.cons_append, List.nil_append]
  refine T.seq ?_
  refine T.region ?_
  refine LW.q rfl (Qt.assign rfl) ?_
  refine LW.done ?_
  refine T.seq ?_
  refine T.seq ?_
  refine T.region ?_
  refine LW.q rfl (Qt.move rfl) ?_
  refine LW.q rfl (Qt.move rfl) ?_
  refine LW.e rfl (Ef.call (Bf.find_none B g b gf n first count hand pl nl cl Fs page hn hn2 hno) Tryd.func34 rfl rfl rfl ?_)
  rintro _ _ ⟨rfl, rfl⟩
  try simp only [List.cons_append, List.nil_append]
  refine LW.q rfl (Qt.assign rfl) ?_
  refine LW.done ?_
  refine T.seq ?_
  refine T.region ?_
  refine LW.q rfl (Qt.move rfl) ?_
  first | refine LW.q rfl (Qt.neqNil (by kernel_rfl) rfl rfl) ?_ | refine LW.q rfl (Qt.neqNN (by kernel_rfl) rfl rfl) ?_
  refine LW.q rfl (Qt.move rfl) ?_
  first | refine LW.gF (t := 11) rfl rfl ?_ | refine LW.gF (t := 11) rfl (decide_eq_false (by omega)) ?_ | refine LW.gF (t := 11) rfl (by omega) ?_
  refine LW.s rfl ?_
  refine LW.s rfl ?_
  refine LW.s rfl ?_
  refine LW.s rfl ?_
  refine LW.s rfl ?_
  refine LW.q rfl (Qt.pick rfl rfl) ?_
  refine LW.done ?_
  first | refine T.condF rfl ?_ | refine T.condPF rfl (by omega) ?_ | refine T.condBF rfl (by omega) ?_
  refine T.skip ?_
  refine T.seq ?_
  refine T.region ?_
  refine LW.q rfl (Qt.assign rfl) ?_
  refine LW.done ?_
  refine T.ret ?_
  exact ⟨.inl rfl, _, _, res [_] rfl ⟨rvT rfl, trivial⟩, ⟨rfl, rfl⟩, Sub.any⟩
theorem Bf.pinned_no (B : Base) (g b gf n first count hand : Nat) (pl : Option Addr) (nl cl : Nat) (Fs : List Fm) (page : Int) (hn : Fs.length = n) (hn2 : n ≤ 4096) (h : pinnedA (Fs.map Fm.a) page = none) :
    Fn Tryd.prog B 36 #[.pointer (some ⟨g, 0, none⟩), .int .i64 page] [poolB g b gf n first count hand pl nl cl, fmR gf n Fs] (fun u l => u = .pointer none ∧ l = [poolB g b gf n first count hand pl nl cl, fmR gf n Fs]) := by
  rcases pinnedA_none h with h | ⟨i, x, h1, h2, h3⟩
  · refine Bf.pinned_miss B g b gf n first count hand pl nl cl Fs page hn hn2 fun j y hy e => ?_
    by_cases h0 : 0 ≤ page
    · exact absurd e (nofd_of rfl h h0 j y hy)
    · omega
  · obtain ⟨z, hz⟩ := fd_of rfl h1
    refine Bf.pinned_low B g b gf n first count hand pl nl cl Fs page i z hn hn2 hz ?_
    have := map_a_at rfl hz.at_
    rw [h2] at this
    cases this
    exact h3
set_option maxRecDepth 100000 in
theorem Bf.unpin_no (B : Base) (g b gf n first count hand : Nat) (pl : Option Addr) (nl cl : Nat) (Fs : List Fm) (page : Int) (hn : Fs.length = n) (hn2 : n ≤ 4096) (h : pinnedA (Fs.map Fm.a) page = none) :
    Fn Tryd.prog B 22 #[.pointer (some ⟨g, 0, none⟩), .int .i64 page] [poolB g b gf n first count hand pl nl cl, fmR gf n Fs] (fun u l => u = .int .i64 61 ∧ l = [poolB g b gf n first count hand pl nl cl, fmR gf n Fs]) := by
  refine Fn.enter2 18 Tryd.func22 rfl rfl (Nat.le_of_ble_eq_true rfl) (fun F => ?_)
  try simp only [List.cons_append, List.nil_append]
  refine T.seq ?_
  refine T.region ?_
  refine LW.q rfl (Qt.assign rfl) ?_
  refine LW.done ?_
  refine T.seq ?_
  refine T.region ?_
  refine LW.q rfl (Qt.move rfl) ?_
  refine LW.q rfl (Qt.move rfl) ?_
  refine LW.e rfl (Ef.call (Bf.pinned_no B g b gf n first count hand pl nl cl Fs page hn hn2 h) Tryd.func36 rfl rfl rfl ?_)
  rintro _ _ ⟨rfl, rfl⟩
  try simp only [List.cons_append, List.nil_append]
  refine LW.q rfl (Qt.assign rfl) ?_
  refine LW.done ?_
  refine T.seq ?_
  refine T.seq ?_
  refine T.region ?_
  refine LW.q rfl (Qt.move rfl) ?_
  first | refine LW.q rfl (Qt.eqlNil (by kernel_rfl) rfl rfl) ?_ | refine LW.q rfl (Qt.eqlNN (by kernel_rfl) rfl rfl) ?_
  refine LW.done ?_
  first | refine T.condT rfl ?_ | refine T.condPT rfl (by omega) ?_ | refine T.condBT rfl (by omega) ?_
  refine T.seq ?_
  refine T.region ?_
  refine LW.q rfl (Qt.assign rfl) ?_
  refine LW.done ?_
  refine T.ret ?_
  exact ⟨.inl rfl, _, _, res [_] rfl ⟨rvT rfl, trivial⟩, ⟨rfl, rfl⟩, Sub.any⟩
set_option maxRecDepth 100000 in
theorem Bf.put_no (B : Base) (g b gf n first count hand : Nat) (pl : Option Addr) (nl cl : Nat) (Fs : List Fm) (page : Int) (hn : Fs.length = n) (hn2 : n ≤ 4096) (h : pinnedA (Fs.map Fm.a) page = none) (dv : Value) (mark : Int) :
    Fn Tryd.prog B 16 #[.pointer (some ⟨g, 0, none⟩), .int .i64 page, dv, .int .i64 mark] [poolB g b gf n first count hand pl nl cl, fmR gf n Fs] (fun u l => u = .int .i64 61 ∧ l = [poolB g b gf n first count hand pl nl cl, fmR gf n Fs]) := by
  refine Fn.enter4 37 Tryd.func16 rfl rfl (Nat.le_of_ble_eq_true rfl) (fun F => ?_)
  try simp only [List.cons_append, List.nil_append]
  refine T.seq ?_
  refine T.region ?_
  refine LW.q rfl (Qt.assign rfl) ?_
  refine LW.done ?_
  refine T.seq ?_
  refine T.region ?_
  refine LW.q rfl (Qt.move rfl) ?_
  refine LW.q rfl (Qt.move rfl) ?_
  refine LW.e rfl (Ef.call (Bf.pinned_no B g b gf n first count hand pl nl cl Fs page hn hn2 h) Tryd.func36 rfl rfl rfl ?_)
  rintro _ _ ⟨rfl, rfl⟩
  try simp only [List.cons_append, List.nil_append]
  refine LW.q rfl (Qt.assign rfl) ?_
  refine LW.done ?_
  refine T.seq ?_
  refine T.block ?_
  refine T.seq ?_
  refine T.region ?_
  refine LW.q rfl (Qt.move rfl) ?_
  first | refine LW.q rfl (Qt.eqlNil (by kernel_rfl) rfl rfl) ?_ | refine LW.q rfl (Qt.eqlNN (by kernel_rfl) rfl rfl) ?_
  refine LW.q rfl (Qt.assign rfl) ?_
  refine LW.done ?_
  first | refine T.condT rfl ?_ | refine T.condPT rfl (by omega) ?_ | refine T.condBT rfl (by omega) ?_
  refine T.seq ?_
  refine T.region ?_
  refine LW.q rfl (Qt.assign rfl) ?_
  refine LW.done ?_
  refine T.ret ?_
  exact ⟨.inl rfl, _, _, res [_] rfl ⟨rvT rfl, trivial⟩, ⟨rfl, rfl⟩, Sub.any⟩

theorem Has.under_back {A : Assn} : ∀ {m r : List Assn} {h : Piece}, Has (m ++ A :: r) h → Has (A :: (m ++ r)) h
  | [], _, _, H => H
  | _ :: _, _, _, H => Has.swap (Has.cons_imp (fun _ k => Has.under_back k) H)
theorem fd_pinned {Fs : List Fm} {A : List Fa} (hA : Fs.map Fm.a = A) {page : Int} {i : Nat} {x : Fa} (h : pinnedA A page = some (i, x)) : ∃ z, Fd Fs page i z ∧ z.a = x ∧ 0 < z.pins := by
  obtain ⟨h1, h2, h3⟩ := pinnedA_some h
  obtain ⟨z, hz⟩ := fd_of hA h1
  have := map_a_at hA hz.at_
  rw [h2] at this
  cases this
  exact ⟨z, hz, rfl, h3⟩

theorem Bp.unpin (B : Base) (g b n first count hand gl : Nat) (A : List Fa) (page : Int) (hl : A.length = n) (hn2 : n ≤ 4096) (hpin : ∀ x ∈ A, x.pins < 2 ^ 62) :
    Fn Tryd.prog B 22 #[.pointer (some ⟨g, 0, none⟩), .int .i64 page] [plA g b n first count hand gl A] (fun u l => u = .int .i64 (unpinA A page).2 ∧ l = [plA g b n first count hand gl (unpinA A page).1]) := by
  refine Fn.openPl fun q hA hptr ⟨gp, hgp⟩ => ?_
  obtain ⟨Fs, gf, pl, cl⟩ := q
  dsimp only at hA hptr hgp ⊢
  subst hgp
  simp only [plC, List.cons_append, List.nil_append, List.append_nil]
  have hlf : Fs.length = n := by rw [← hl, ← hA, List.length_map]
  have hs : ∀ (A' : List Fa) (Fs' : List Fm), Fs'.map Fm.a = A' → Sub [poolB g b gf n first count hand (some ⟨gp, 0, none⟩) 1 cl, fmR gf n Fs', lgR (some ⟨gp, 0, none⟩) 1 cl [ifW gl], daA Fs'] [plA g b n first count hand gl A'] := fun A' Fs' e => sub_pl (S := []) ⟨Fs', gf, some ⟨gp, 0, none⟩, cl⟩ e
  cases h : pinnedA A page with
  | none =>
    refine Fn.wide (Bf.unpin_no B g b gf n first count hand (some ⟨gp, 0, none⟩) 1 cl Fs page hlf hn2 (by rw [hA]; exact h)) ?_
    rintro v l' ⟨rfl, rfl⟩
    simp only [List.cons_append, List.nil_append]
    exact ⟨_, hs A Fs hA, by simp [unpinA, h], by simp [unpinA, h]⟩
  | some r =>
    obtain ⟨i, x⟩ := r
    obtain ⟨z, hz, rfl, hp⟩ := fd_pinned hA h
    refine Fn.wide (Bf.unpin B g b gf n first count hand (some ⟨gp, 0, none⟩) 1 cl Fs page i z hlf hn2 hz hp (hpin z.a (List.mem_of_getElem? (map_a_at hA hz.at_)))) ?_
    rintro v l' ⟨rfl, rfl⟩
    simp only [List.cons_append, List.nil_append]
    refine ⟨_, ?_, by simp [unpinA, h], rfl⟩
    have := hs (unpinA A page).1 (Fs.set i { z with pins := z.pins - 1 }) (by rw [List.map_set, hA]; simp only [unpinA, h]; rfl)
    rwa [da_same (y := { z with pins := z.pins - 1 }) hz.at_ rfl rfl rfl] at this
theorem Bp.bytes (B : Base) (g b n first count hand gl : Nat) (A : List Fa) (page : Int) (hl : A.length = n) (hn2 : n ≤ 4096) (i : Nat) (x : Fa) (h : pinnedA A page = some (i, x)) (m : Nat) (hm : x.b.length = m) (hb : m < 2 ^ 40) :
    Fn Tryd.prog B 17 #[.pointer (some ⟨g, 0, none⟩), .int .i64 page] [plA g b n first count hand gl A] (fun u l => ∃ p c, u = .tuple #[.slice p m c, .int .i64 0] ∧ (0 < m → ∃ g, p = some ⟨g, 0, none⟩) ∧ l = [rB (.slice p m c) m x.b, plA g b n first count hand gl A]) := by
  refine Fn.openPl fun q hA hptr ⟨gp, hgp⟩ => ?_
  obtain ⟨Fs, gf, pl, cl⟩ := q
  dsimp only at hA hptr hgp ⊢
  subst hgp
  simp only [plC, List.cons_append, List.nil_append, List.append_nil]
  obtain ⟨z, hz, rfl, hp⟩ := fd_pinned hA h
  subst hm
  refine Fn.wide (Bf.bytes B [daA Fs] g b gf n first count hand (some ⟨gp, 0, none⟩) 1 cl Fs page i z (by rw [← hl, ← hA, List.length_map]) hn2 hz hp (RdV.da hz.at_ (hptr i z hz.at_)) hb) ?_
  rintro v l' ⟨p, c, rfl, hp2, rfl⟩
  simp only [List.cons_append, List.nil_append]
  refine ⟨_, fun k K => ?_, p, c, rfl, hp2, rfl⟩
  refine Has.cons_imp (sub_pl (S := []) ⟨Fs, gf, some ⟨gp, 0, none⟩, cl⟩ hA) ?_
  simp only [plC, List.append_nil]
  have K2 : Has [rB (.slice p z.b.length c) z.b.length z.b, poolB g b gf n first count hand (some ⟨gp, 0, none⟩) 1 cl, fmR gf n Fs, lgR (some ⟨gp, 0, none⟩) 1 cl [ifW gl], daA Fs] k := Sub.any k K
  exact K2
theorem Bp.put_no (B : Base) (g b n first count hand gl : Nat) (A : List Fa) (page : Int) (hl : A.length = n) (hn2 : n ≤ 4096) (a : Option Addr) (m ca : Nat) (d : List UInt8) (hd : d.length = m) (mark : Int) (h : pinnedA A page = none ∨ d.length ≠ 256) :
    Fn Tryd.prog B 16 #[.pointer (some ⟨g, 0, none⟩), .int .i64 page, .slice a m ca, .int .i64 mark] [plA g b n first count hand gl A] (fun u l => u = .int .i64 (putA A page d mark).2 ∧ (putA A page d mark).1 = A ∧ l = [plA g b n first count hand gl A]) := by
  refine Fn.openPl fun q hA hptr ⟨gp, hgp⟩ => ?_
  obtain ⟨Fs, gf, pl, cl⟩ := q
  dsimp only at hA hptr hgp ⊢
  subst hgp
  simp only [plC, List.cons_append, List.nil_append, List.append_nil]
  have hlf : Fs.length = n := by rw [← hl, ← hA, List.length_map]
  cases h2 : pinnedA A page with
  | none =>
    refine Fn.wide (Bf.put_no B g b gf n first count hand (some ⟨gp, 0, none⟩) 1 cl Fs page hlf hn2 (by rw [hA]; exact h2) (.slice a m ca) mark) ?_
    rintro v l' ⟨rfl, rfl⟩
    simp only [List.cons_append, List.nil_append]
    exact ⟨_, sub_pl (S := []) ⟨Fs, gf, some ⟨gp, 0, none⟩, cl⟩ hA, by simp [putA, h2], by simp [putA, h2], rfl⟩
  | some r =>
    obtain ⟨i, x⟩ := r
    obtain ⟨z, hz, rfl, hp⟩ := fd_pinned hA h2
    have hd2 : d.length ≠ 256 := h.resolve_left (by rw [h2]; simp)
    refine Fn.wide (Bf.put_length B g b gf n first count hand (some ⟨gp, 0, none⟩) 1 cl Fs page i z hlf hn2 hz hp a m ca mark (by omega)) ?_
    rintro v l' ⟨rfl, rfl⟩
    simp only [List.cons_append, List.nil_append]
    exact ⟨_, sub_pl (S := []) ⟨Fs, gf, some ⟨gp, 0, none⟩, cl⟩ hA, by simp [putA, h2, hd2], by simp [putA, h2, hd2], rfl⟩
theorem Bp.put (B : Base) (S : List Assn) (g b n first count hand gl : Nat) (A : List Fa) (page : Int) (hl : A.length = n) (hn2 : n ≤ 4096) (i : Nat) (x : Fa) (h : pinnedA A page = some (i, x)) (a : Option Addr) (ca : Nat) (d : List UInt8) (mark : Int) (hd : d.length = 256) (hv : RdV B S (.slice a 256 ca) (bytesV d)) :
    Fn Tryd.prog B 16 #[.pointer (some ⟨g, 0, none⟩), .int .i64 page, .slice a 256 ca, .int .i64 mark] (plA g b n first count hand gl A :: S) (fun u l => u = .int .i64 (putA A page d mark).2 ∧ l = plA g b n first count hand gl (putA A page d mark).1 :: S) := by
  refine Fn.openPl fun q hA hptr ⟨gp, hgp⟩ => ?_
  obtain ⟨Fs, gf, pl, cl⟩ := q
  dsimp only at hA hptr hgp ⊢
  subst hgp
  simp only [plC, List.cons_append, List.nil_append, List.append_nil]
  have hlf : Fs.length = n := by rw [← hl, ← hA, List.length_map]
  obtain ⟨z, hz, rfl, hp⟩ := fd_pinned hA h
  have hil : i < Fs.length := (List.getElem?_eq_some_iff.1 hz.at_).1
  have h0 := (Bf.put B (lgR (some ⟨gp, 0, none⟩) 1 cl [ifW gl] :: daA Fs :: S) g b gf n first count hand (some ⟨gp, 0, none⟩) 1 cl Fs page i z hlf hn2 hz hp a ca d mark hd (hv.mono fun w ho => ho.tl.tl))
  refine h0.sub ?_
  rintro v l' ⟨p, c, rfl, hp2, rfl⟩
  refine ⟨_, fun k K => ?_, by simp [putA, h, hd], rfl⟩
  refine sub_pl ⟨Fs.set i { z with mark := max z.mark mark, dirty := true, p := p, c := c, b := d }, gf, some ⟨gp, 0, none⟩, cl⟩ (by simp only [putA, h]; rw [List.map_set, hA, if_neg (by simp [hd])]; rfl) k ?_
  simp only [plC, List.cons_append, List.nil_append]
  have K2 : Has (rB (.slice p 256 c) 256 d :: daA Fs :: ([poolB g b gf n first count hand (some ⟨gp, 0, none⟩) 1 cl, fmR gf n (Fs.set i { z with mark := max z.mark mark, dirty := true, p := p, c := c, b := d }), lgR (some ⟨gp, 0, none⟩) 1 cl [ifW gl]] ++ S)) k := by
    refine Has.cons_imp (fun k1 K1 => ?_) K
    have : Has ([poolB g b gf n first count hand (some ⟨gp, 0, none⟩) 1 cl, fmR gf n (Fs.set i { z with mark := max z.mark mark, dirty := true, p := p, c := c, b := d }), lgR (some ⟨gp, 0, none⟩) 1 cl [ifW gl]] ++ (daA Fs :: S)) k1 := K1
    exact Has.under_back this
  have K3 := da_put (y := { z with mark := max z.mark mark, dirty := true, p := p, c := c, b := d }) hil k (by rw [fmD]; dsimp only; rw [hd]; exact K2)
  have K4 : Has ([poolB g b gf n first count hand (some ⟨gp, 0, none⟩) 1 cl, fmR gf n (Fs.set i { z with mark := max z.mark mark, dirty := true, p := p, c := c, b := d }), lgR (some ⟨gp, 0, none⟩) 1 cl [ifW gl]] ++ (daA (Fs.set i { z with mark := max z.mark mark, dirty := true, p := p, c := c, b := d }) :: S)) k := Has.under K3
  exact K4

theorem da_none (n : Nat) (l : List Assn) : Sub l (daA (List.replicate n fm1) :: l) := fun h H => by
  refine ⟨fun _ => none, h, ⟨fun _ => .inl rfl⟩, ⟨fun _ _ e => (by cases e)⟩, Piece.le_refl h, ?_, H⟩
  show Has ((List.replicate n fm1).map fmD) _
  induction n with
  | zero => trivial
  | succ n ih => exact ⟨fun _ => none, fun _ => none, ⟨fun _ => .inl rfl⟩, Piece.le_refl _, Piece.le_refl _, ⟨by simp, .inl ⟨rfl, rfl⟩⟩, ih⟩
theorem map_fm1 (n : Nat) : (List.replicate n fm1).map Fm.a = List.replicate n fa1 := by simp [Fm.a]
theorem FOk.new (count n : Nat) (h1 : 1 ≤ n) (h2 : n ≤ 4096) : FOk count n (List.replicate n fa1) := by
  have hx : ∀ x ∈ List.replicate n fa1, x = fa1 := fun x hx => (List.mem_replicate.1 hx).2
  refine ⟨by simp, h1, h2, fun x h => .inl (hx x h), fun x h => by rw [hx x h]; exact ⟨by decide, by decide⟩, fun i j x y hi hj e h0 => ?_⟩
  rw [hx x (List.mem_of_getElem? hi)] at h0
  exact absurd h0 (by decide)

/-! the statements' laid -/
abbrev benchB (gb b gl g : Nat) : Assn := blk gb [.pointer (some ⟨b, 0, none⟩), .pointer (some ⟨gl, 0, none⟩), .pointer (some ⟨g, 0, none⟩)] 46
def LaidP (n : Nat) (u : Value) (l : List Assn) : Prop := ∃ gb b gl g D, u = .pointer (some ⟨gb, 0, none⟩) ∧ D.Ok ∧ D.secs.length = 12 ∧ D.pend = [] ∧ (∀ x, 0 ≤ x → x < 12 → D.read x = List.replicate 256 0) ∧
  l = [benchB gb b gl g, plA g b n 4 8 0 gl (List.replicate n fa1), wlA gl b (mkW 0 4 [] 0), dskA b D]
theorem Bp.laid (B : Base) (n : Nat) (i : Int) (hi : i = n) (h1 : 1 ≤ n) (h2 : n ≤ 4096) : Fn Tryd.prog B 14 #[.int .i64 i] [] (LaidP n) := by
  refine (Bf.laid B n i hi h1 h2).sub ?_
  rintro v l ⟨gb, b, gl, g, gf, pl, cl, D, rfl, e1, e2, e3, e4, rfl⟩
  refine ⟨_, fun k K => ?_, gb, b, gl, g, D, rfl, e1, e2, e3, e4, rfl⟩
  refine Has.cons_imp (fun k2 K2 => sub_pl ⟨List.replicate n fm1, gf, pl, cl⟩ (map_fm1 n) k2 ?_) K
  simp only [plC, List.cons_append, List.nil_append]
  have K3 := da_none n _ k2 K2
  exact Sub.any k2 K3
/-- Which pools are refused. -/
def wrongP (sectors first count frames : Int) : Prop := first < 0 ∨ count < 1 ∨ sectors < count ∨ sectors - count < first ∨ frames < 1 ∨ 4096 < frames
instance (a b c d : Int) : Decidable (wrongP a b c d) := by unfold wrongP; infer_instance
end Go.Proofs.YtegohgaccmkigaaDoor

/- The statement BufferKeeps. Conditions: that what is handed in can be read; sizes. -/
set_option linter.unusedSimpArgs false
set_option linter.unusedVariables false
namespace Go.Proofs.YtegohgaccmkigaaDoor
open Go.RowKit

theorem Bp.put_any (B : Base) (S : List Assn) (g b n first count hand gl : Nat) (A : List Fa) (page : Int) (hl : A.length = n) (hn2 : n ≤ 4096) (a : Option Addr) (m ca : Nat) (d : List UInt8) (mark : Int) (hd : d.length = m) (hv : RdV B S (.slice a m ca) (bytesV d)) :
    Fn Tryd.prog B 16 #[.pointer (some ⟨g, 0, none⟩), .int .i64 page, .slice a m ca, .int .i64 mark] (plA g b n first count hand gl A :: S) (fun u l => u = .int .i64 (putA A page d mark).2 ∧ l = plA g b n first count hand gl (putA A page d mark).1 :: S) := by
  cases h : pinnedA A page with
  | none =>
    refine Fn.wide (Bp.put_no B g b n first count hand gl A page hl hn2 a m ca d hd mark (.inl h)) ?_
    rintro v l' ⟨rfl, e, rfl⟩
    exact ⟨_, fun k K => K, rfl, by rw [e]; rfl⟩
  | some r =>
    by_cases h2 : d.length = 256
    · obtain rfl : m = 256 := by omega
      exact Bp.put B S g b n first count hand gl A page hl hn2 r.1 r.2 h a ca d mark h2 hv
    · refine Fn.wide (Bp.put_no B g b n first count hand gl A page hl hn2 a m ca d hd mark (.inr h2)) ?_
      rintro v l' ⟨rfl, e, rfl⟩
      exact ⟨_, fun k K => K, rfl, by rw [e]; rfl⟩
end Go.Proofs.YtegohgaccmkigaaDoor
