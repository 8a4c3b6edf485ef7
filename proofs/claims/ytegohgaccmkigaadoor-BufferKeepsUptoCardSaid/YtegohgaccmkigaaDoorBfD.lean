/- The package buffer: force, victim, Pin, as far as the statements BufferNews and BufferKeeps reach. Conditions: sizes. -/
import Derived.Test.YtegohgaccmkigaaDoorBfC
set_option linter.unusedSimpArgs false
set_option linter.unusedVariables false
namespace Go.Proofs.YtegohgaccmkigaaDoor
open Go.RowKit

set_option maxHeartbeats 1000000 in
set_option maxRecDepth 100000 in
theorem Bf.force1 (B : Base) (g b gf n first count hand : Nat) (pl : Option Addr) (cl : Nat) (gl bl : Nat) (W : Wl) (mark : Int) (hdur : W.dur < 2 ^ 40) (hm : mark ≤ W.dur) :
    Fn Tryd.prog B 41 #[.pointer (some ⟨g, 0, none⟩), .int .i64 mark] [poolB g b gf n first count hand pl 1 cl, lgR pl 1 cl [.iface 44 (.pointer (some ⟨gl, 0, none⟩))], wlA gl bl W] (fun u l => u = .tuple #[] ∧ l = [poolB g b gf n first count hand pl 1 cl, lgR pl 1 cl [.iface 44 (.pointer (some ⟨gl, 0, none⟩))], wlA gl bl W]) := by
  refine Fn.enter2 19 Tryd.func41 rfl rfl (Nat.le_of_ble_eq_true rfl) (fun F => ?_)
  try simp only [List.cons_append, List.nil_append]
  refine T.own (fun w ho => ?_)
  obtain ⟨gp, rfl⟩ : ∃ gp, pl = some ⟨gp, 0, none⟩ := (ho.slice_at (p := pl) (m := 1) (c := cl)).2.1 (by omega)
  clear ho
  refine T.seq ?_
  refine T.region ?_
  refine LW.q rfl (Qt.move rfl) ?_
  refine LW.q rfl (Qt.nilCheck rfl) ?_
  refine LW.q rfl (Qt.fieldAddr (off := 5) (by kernel_rfl) rfl) ?_
  first | refine LW.q rfl (Qt.load (by kernel_rfl) rfl rfl) ?_ | refine LW.q rfl (Qt.load (by kernel_rfl) rfl (map_at _ _ _ (by omega))) ?_ | refine LW.q rfl (Qt.load (by kernel_rfl) rfl (flat_cell0 _ _ _ (by intros; rfl) _ (by omega) (by rfl))) ?_ | refine LW.q rfl (Qt.load (by kernel_rfl) rfl (flat_cell _ _ _ (by intros; rfl) _ _ (by omega) (by rfl))) ?_ | refine LW.q rfl (Qt.load (by kernel_rfl) rfl (bytes_at _ _ (by omega))) ?_
  refine LW.q rfl (Qt.len (e := 79) (sz := 1) (by kernel_rfl) rfl) ?_
  refine LW.q rfl (Qt.move rfl) ?_
  refine LW.done ?_
  refine T.block ?_
  refine T.loop (fun mz fz lz => ∃ (f0 : Fr) (k : Nat), (k ≤ 1) ∧ mz = 1 - k ∧ fz = (upd (upd (upd (upd f0 1 (.int .i64 mark)) 9 (.slice (some ⟨gp, 0, none⟩) 1 cl)) 10 (.int .i64 1)) 11 (.int .i64 k)) ∧ lz = poolB g b gf n first count hand (some ⟨gp, 0, none⟩) 1 cl :: lgR (some ⟨gp, 0, none⟩) 1 cl [.iface 44 (.pointer (some ⟨gl, 0, none⟩))] :: wlA gl bl W :: F) ?_ ?_
  · refine ⟨_, _, ⟨_, 0, Nat.zero_le _, rfl, (updS rfl (updS rfl (updS rfl (updS rfl rfl)))), rfl⟩, Sub.any⟩
  · skip
    rintro mz fz lz ⟨f0, k, hk, hmz, rfl, rfl⟩
    subst mz
    try simp only [List.cons_append, List.nil_append]
    refine T.seq ?_
    refine T.region ?_
    refine LW.q rfl (Qt.lss rfl rfl) ?_
    refine LW.done ?_
    refine T.seq ?_
    refine T.condP rfl (fun hlt => ?_) (fun hlt => ?_)
    · skip
      obtain rfl : k = 0 := by omega
      refine T.skip ?_
      refine T.seq ?_
      refine T.block ?_
      refine T.seq ?_
      refine T.region ?_
      refine LW.q rfl (Qt.index _ (e := 79) (sz := 1) (by kernel_rfl) rfl rfl rfl (by omega)) ?_
      refine LW.q rfl (Qt.load (v := .iface 44 (.pointer (some ⟨gl, 0, none⟩))) (by kernel_rfl) rfl rfl) ?_
      refine LW.q rfl (Qt.assign rfl) ?_
      refine LW.done ?_
      refine T.region ?_
      refine LW.q rfl (Qt.move rfl) ?_
      refine LW.q rfl (Qt.move rfl) ?_
      refine LW.e rfl (Ef.callI (vs := [.int .i64 mark]) (Wl.forceNo B gl bl W mark hdur hm) Tryd.func105 rfl rfl rfl (fun w => by kernel_rfl) rfl ?_)
      rintro _ _ ⟨rfl, rfl⟩
      try simp only [List.cons_append, List.nil_append]
      refine LW.done ?_
      refine T.region ?_
      refine LW.q rfl (Qt.add rfl rfl (wr64 (by omega) (by omega))) ?_
      refine LW.q rfl (Qt.move rfl) ?_
      refine LW.done ?_
      refine ⟨_, ?_, _, ⟨_, 1, Nat.le_refl _, rfl, (updS rfl (updS rfl (updS rfl (updS rfl rfl)))), rfl⟩, Sub.any⟩
      first | omega | (simp; omega)
    · skip
      refine T.exit ?_
      exact ⟨.inr rfl, _, _, res [] rfl trivial, ⟨rfl, rfl⟩, Sub.any⟩

set_option maxHeartbeats 2000000 in
set_option maxRecDepth 100000 in
theorem Bf.victim_free (B : Base) (g b gf n first count hand : Nat) (pl : Option Addr) (nl cl : Nat) (Fs : List Fm) (i : Nat) (x : Fm) (hn : Fs.length = n) (hn2 : n ≤ 4096) (hx : Fs[i]? = some x) (hp : x.page < 0) (hfirst : ∀ (j : Nat), j < i → ∀ y : Fm, Fs[j]? = some y → 0 ≤ y.page) :
    Fn Tryd.prog B 35 #[.pointer (some ⟨g, 0, none⟩)] [poolB g b gf n first count hand pl nl cl, fmR gf n Fs] (fun u l => u = .pointer (some ⟨gf, 0 + i * 6, none⟩) ∧ l = [poolB g b gf n first count hand pl nl cl, fmR gf n Fs]) := by
  have hi : i < n := by rw [← hn]; exact (List.getElem?_eq_some_iff.1 hx).1
  refine Fn.enter1 105 Tryd.func35 rfl rfl (Nat.le_of_ble_eq_true rfl) (fun F => ?_)
  try simp only [List.cons_append, List.nil_append]
  refine T.seq ?_
  refine T.region ?_
  refine LW.q rfl (Qt.assign rfl) ?_
  refine LW.done ?_
  refine T.seq ?_
  refine T.region ?_
  refine LW.q rfl (Qt.assign rfl) ?_
  refine LW.done ?_
  refine T.seq ?_
  refine T.seq ?_
  refine T.region ?_
  refine LW.q rfl (Qt.move rfl) ?_
  refine LW.q rfl (Qt.nilCheck rfl) ?_
  refine LW.q rfl (Qt.fieldAddr (off := 3) (by kernel_rfl) rfl) ?_
  first | refine LW.q rfl (Qt.load (by kernel_rfl) rfl rfl) ?_ | refine LW.q rfl (Qt.load (by kernel_rfl) rfl (map_at _ _ _ (by omega))) ?_ | refine LW.q rfl (Qt.load (by kernel_rfl) rfl (flat_cell0 _ _ _ (by intros; rfl) _ (by omega) (by rfl))) ?_ | refine LW.q rfl (Qt.load (by kernel_rfl) rfl (flat_cell _ _ _ (by intros; rfl) _ _ (by omega) (by rfl))) ?_ | refine LW.q rfl (Qt.load (by kernel_rfl) rfl (bytes_at _ _ (by omega))) ?_
  refine LW.q rfl (Qt.len (e := 81) (sz := 6) (by kernel_rfl) rfl) ?_
  refine LW.q rfl (Qt.move rfl) ?_
  refine LW.done ?_
  refine T.block ?_
  refine T.loop (fun mz fz lz => ∃ (f0 : Fr) (k : Nat) (fb : Bool), (k ≤ i) ∧ mz = n - k ∧ fz = (upd (upd (upd (upd f0 0 (.pointer (some ⟨g, 0, none⟩))) 3 (.bool fb)) 11 (.int .i64 n)) 12 (.int .i64 k)) ∧ lz = poolB g b gf n first count hand pl nl cl :: fmR gf n Fs :: F) ?_ ?_
  · refine ⟨_, _, ⟨_, 0, true, Nat.zero_le _, rfl, (updS rfl (updS rfl (updS rfl (updS rfl rfl)))), rfl⟩, Sub.any⟩
  · skip
    rintro mz fz lz ⟨f0, k, fb, hk, hmz, rfl, rfl⟩
    subst mz
    try simp only [List.cons_append, List.nil_append]
    obtain ⟨y, hy⟩ : ∃ y, Fs[k]? = some y := ⟨_, List.getElem?_eq_getElem (by omega)⟩
    refine T.seq ?_
    refine T.region ?_
    refine LW.q rfl (Qt.lss rfl rfl) ?_
    refine LW.done ?_
    refine T.seq ?_
    first | refine T.condT rfl ?_ | refine T.condPT rfl (by omega) ?_ | refine T.condBT rfl (by omega) ?_
    by_cases e : k = i
    · skip
      subst e
      obtain rfl : y = x := by rw [hx] at hy; exact (Option.some.inj hy).symm
      refine T.skip ?_
      refine T.seq ?_
      refine T.block ?_
      refine T.seq ?_
      refine T.region ?_
      refine LW.q rfl (Qt.move rfl) ?_
      refine LW.q rfl (Qt.assign rfl) ?_
      refine LW.done ?_
      refine T.seq ?_
      refine T.region ?_
      refine LW.q rfl (Qt.move rfl) ?_
      refine LW.q rfl (Qt.nilCheck rfl) ?_
      refine LW.q rfl (Qt.fieldAddr (off := 3) (by kernel_rfl) rfl) ?_
      first | refine LW.q rfl (Qt.load (by kernel_rfl) rfl rfl) ?_ | refine LW.q rfl (Qt.load (by kernel_rfl) rfl (map_at _ _ _ (by omega))) ?_ | refine LW.q rfl (Qt.load (by kernel_rfl) rfl (flat_cell0 _ _ _ (by intros; rfl) _ (by omega) (by rfl))) ?_ | refine LW.q rfl (Qt.load (by kernel_rfl) rfl (flat_cell _ _ _ (by intros; rfl) _ _ (by omega) (by rfl))) ?_ | refine LW.q rfl (Qt.load (by kernel_rfl) rfl (bytes_at _ _ (by omega))) ?_
      refine LW.q rfl (Qt.move rfl) ?_
      refine LW.q rfl (Qt.index _ (e := 81) (sz := 6) (by kernel_rfl) rfl rfl rfl (by omega)) ?_
      refine LW.q rfl (Qt.assign rfl) ?_
      refine LW.done ?_
      refine T.seq ?_
      refine T.seq ?_
      refine T.region ?_
      refine LW.q rfl (Qt.move rfl) ?_
      refine LW.q rfl (Qt.nilCheck rfl) ?_
      refine LW.q rfl (Qt.fieldAddr0 (by kernel_rfl) rfl) ?_
      refine LW.q rfl (Qt.load (v := .int .i64 y.page) (by kernel_rfl) rfl (fm_at hy 0 (by omega))) ?_
      refine LW.q rfl (Qt.lss rfl rfl) ?_
      refine LW.done ?_
      first | refine T.condT rfl ?_ | refine T.condPT rfl (by omega) ?_ | refine T.condBT rfl (by omega) ?_
      refine T.seq ?_
      refine T.region ?_
      refine LW.q rfl (Qt.move rfl) ?_
      refine LW.q rfl (Qt.assign rfl) ?_
      refine LW.done ?_
      refine T.ret ?_
      exact ⟨.inl rfl, _, _, res [_] rfl ⟨rvT rfl, trivial⟩, ⟨rfl, rfl⟩, Sub.any⟩
    · skip
      have hpos := hfirst k (by omega) y hy
      refine T.skip ?_
      refine T.seq ?_
      refine T.block ?_
      refine T.seq ?_
      refine T.region ?_
      refine LW.q rfl (Qt.move rfl) ?_
      refine LW.q rfl (Qt.assign rfl) ?_
      refine LW.done ?_
      refine T.seq ?_
      refine T.region ?_
      refine LW.q rfl (Qt.move rfl) ?_
      refine LW.q rfl (Qt.nilCheck rfl) ?_
      refine LW.q rfl (Qt.fieldAddr (off := 3) (by kernel_rfl) rfl) ?_
      first | refine LW.q rfl (Qt.load (by kernel_rfl) rfl rfl) ?_ | refine LW.q rfl (Qt.load (by kernel_rfl) rfl (map_at _ _ _ (by omega))) ?_ | refine LW.q rfl (Qt.load (by kernel_rfl) rfl (flat_cell0 _ _ _ (by intros; rfl) _ (by omega) (by rfl))) ?_ | refine LW.q rfl (Qt.load (by kernel_rfl) rfl (flat_cell _ _ _ (by intros; rfl) _ _ (by omega) (by rfl))) ?_ | refine LW.q rfl (Qt.load (by kernel_rfl) rfl (bytes_at _ _ (by omega))) ?_
      refine LW.q rfl (Qt.move rfl) ?_
      refine LW.q rfl (Qt.index _ (e := 81) (sz := 6) (by kernel_rfl) rfl rfl rfl (by omega)) ?_
      refine LW.q rfl (Qt.assign rfl) ?_
      refine LW.done ?_
      refine T.seq ?_
      refine T.seq ?_
      refine T.region ?_
      refine LW.q rfl (Qt.move rfl) ?_
      refine LW.q rfl (Qt.nilCheck rfl) ?_
      refine LW.q rfl (Qt.fieldAddr0 (by kernel_rfl) rfl) ?_
      refine LW.q rfl (Qt.load (v := .int .i64 y.page) (by kernel_rfl) rfl (fm_at hy 0 (by omega))) ?_
      refine LW.q rfl (Qt.lss rfl rfl) ?_
      refine LW.done ?_
      first | refine T.condF rfl ?_ | refine T.condPF rfl (by omega) ?_ | refine T.condBF rfl (by omega) ?_
      refine T.skip ?_
      refine T.region ?_
      refine LW.q rfl (Qt.move rfl) ?_
      refine LW.q rfl (Qt.move rfl) ?_
      refine LW.split (t := 28) rfl (fun hfb => ?_) (fun hfb => ?_)
      · skip
        try replace hfb := of_decide_eq_true hfb
        refine LW.q rfl (Qt.move rfl) ?_
        refine LW.q rfl (Qt.nilCheck rfl) ?_
        refine LW.q rfl (Qt.fieldAddr (off := 3) (by kernel_rfl) rfl) ?_
        refine LW.q rfl (Qt.load (v := .int .i64 y.pins) (by kernel_rfl) rfl (fm_at hy 3 (by omega))) ?_
        refine LW.q rfl (Qt.gtr rfl rfl) ?_
        refine LW.q rfl (Qt.pick rfl rfl) ?_
        refine LW.q rfl (Qt.assign rfl) ?_
        refine LW.done ?_
        refine T.region ?_
        refine LW.q rfl (Qt.add rfl rfl (wr64 (by omega) (by omega))) ?_
        refine LW.q rfl (Qt.move rfl) ?_
        refine LW.done ?_
        refine ⟨_, ?_, _, ⟨_, k + 1, _, by omega, rfl, (updS rfl (updS rfl (updS rfl (updS rfl rfl)))), rfl⟩, Sub.any⟩
        first | omega | (simp; omega)
      · skip
        try replace hfb := of_decide_eq_false hfb
        refine LW.s rfl ?_
        refine LW.s rfl ?_
        refine LW.s rfl ?_
        refine LW.s rfl ?_
        refine LW.s rfl ?_
        refine LW.q rfl (Qt.pick rfl rfl) ?_
        refine LW.q rfl (Qt.assign rfl) ?_
        refine LW.done ?_
        refine T.region ?_
        refine LW.q rfl (Qt.add rfl rfl (wr64 (by omega) (by omega))) ?_
        refine LW.q rfl (Qt.move rfl) ?_
        refine LW.done ?_
        refine ⟨_, ?_, _, ⟨_, k + 1, _, by omega, rfl, (updS rfl (updS rfl (updS rfl (updS rfl rfl)))), rfl⟩, Sub.any⟩
        first | omega | (simp; omega)
set_option maxHeartbeats 2000000 in
set_option maxRecDepth 100000 in
theorem Bf.victim_full (B : Base) (g b gf n first count hand : Nat) (pl : Option Addr) (nl cl : Nat) (Fs : List Fm) (hn : Fs.length = n) (hn2 : n ≤ 4096) (hall : ∀ (j : Nat) (y : Fm), Fs[j]? = some y → 0 ≤ y.page ∧ 0 < y.pins) :
    Fn Tryd.prog B 35 #[.pointer (some ⟨g, 0, none⟩)] [poolB g b gf n first count hand pl nl cl, fmR gf n Fs] (fun u l => u = .pointer none ∧ l = [poolB g b gf n first count hand pl nl cl, fmR gf n Fs]) := by
  refine Fn.enter1 105 Tryd.func35 rfl rfl (Nat.le_of_ble_eq_true rfl) (fun F => ?_)
  try simp only [List.cons_append, List.nil_append]
  refine T.seq ?_
  refine T.region ?_
  refine LW.q rfl (Qt.assign rfl) ?_
  refine LW.done ?_
  refine T.seq ?_
  refine T.region ?_
  refine LW.q rfl (Qt.assign rfl) ?_
  refine LW.done ?_
  refine T.seq ?_
  refine T.seq ?_
  refine T.region ?_
  refine LW.q rfl (Qt.move rfl) ?_
  refine LW.q rfl (Qt.nilCheck rfl) ?_
  refine LW.q rfl (Qt.fieldAddr (off := 3) (by kernel_rfl) rfl) ?_
  first | refine LW.q rfl (Qt.load (by kernel_rfl) rfl rfl) ?_ | refine LW.q rfl (Qt.load (by kernel_rfl) rfl (map_at _ _ _ (by omega))) ?_ | refine LW.q rfl (Qt.load (by kernel_rfl) rfl (flat_cell0 _ _ _ (by intros; rfl) _ (by omega) (by rfl))) ?_ | refine LW.q rfl (Qt.load (by kernel_rfl) rfl (flat_cell _ _ _ (by intros; rfl) _ _ (by omega) (by rfl))) ?_ | refine LW.q rfl (Qt.load (by kernel_rfl) rfl (bytes_at _ _ (by omega))) ?_
  refine LW.q rfl (Qt.len (e := 81) (sz := 6) (by kernel_rfl) rfl) ?_
  refine LW.q rfl (Qt.move rfl) ?_
  refine LW.done ?_
  refine T.block ?_
  refine T.loop (fun mz fz lz => ∃ (f0 : Fr) (k : Nat) (fb : Bool), (k ≤ n ∧ fb = true) ∧ mz = n - k ∧ fz = (upd (upd (upd (upd f0 0 (.pointer (some ⟨g, 0, none⟩))) 3 (.bool fb)) 11 (.int .i64 n)) 12 (.int .i64 k)) ∧ lz = poolB g b gf n first count hand pl nl cl :: fmR gf n Fs :: F) ?_ ?_
  · refine ⟨_, _, ⟨_, 0, true, ⟨Nat.zero_le _, rfl⟩, rfl, (updS rfl (updS rfl (updS rfl (updS rfl rfl)))), rfl⟩, Sub.any⟩
  · skip
    rintro mz fz lz ⟨f0, k, fb, ⟨hk, hfb⟩, hmz, rfl, rfl⟩
    subst mz
    try simp only [List.cons_append, List.nil_append]
    subst hfb
    refine T.seq ?_
    refine T.region ?_
    refine LW.q rfl (Qt.lss rfl rfl) ?_
    refine LW.done ?_
    refine T.seq ?_
    refine T.condP rfl (fun hlt => ?_) (fun hlt => ?_)
    · skip
      obtain ⟨y, hy⟩ : ∃ y, Fs[k]? = some y := ⟨_, List.getElem?_eq_getElem (by omega)⟩
      obtain ⟨hy1, hy2⟩ := hall k y hy
      refine T.skip ?_
      refine T.seq ?_
      refine T.block ?_
      refine T.seq ?_
      refine T.region ?_
      refine LW.q rfl (Qt.move rfl) ?_
      refine LW.q rfl (Qt.assign rfl) ?_
      refine LW.done ?_
      refine T.seq ?_
      refine T.region ?_
      refine LW.q rfl (Qt.move rfl) ?_
      refine LW.q rfl (Qt.nilCheck rfl) ?_
      refine LW.q rfl (Qt.fieldAddr (off := 3) (by kernel_rfl) rfl) ?_
      first | refine LW.q rfl (Qt.load (by kernel_rfl) rfl rfl) ?_ | refine LW.q rfl (Qt.load (by kernel_rfl) rfl (map_at _ _ _ (by omega))) ?_ | refine LW.q rfl (Qt.load (by kernel_rfl) rfl (flat_cell0 _ _ _ (by intros; rfl) _ (by omega) (by rfl))) ?_ | refine LW.q rfl (Qt.load (by kernel_rfl) rfl (flat_cell _ _ _ (by intros; rfl) _ _ (by omega) (by rfl))) ?_ | refine LW.q rfl (Qt.load (by kernel_rfl) rfl (bytes_at _ _ (by omega))) ?_
      refine LW.q rfl (Qt.move rfl) ?_
      refine LW.q rfl (Qt.index _ (e := 81) (sz := 6) (by kernel_rfl) rfl rfl rfl (by omega)) ?_
      refine LW.q rfl (Qt.assign rfl) ?_
      refine LW.done ?_
      refine T.seq ?_
      refine T.seq ?_
      refine T.region ?_
      refine LW.q rfl (Qt.move rfl) ?_
      refine LW.q rfl (Qt.nilCheck rfl) ?_
      refine LW.q rfl (Qt.fieldAddr0 (by kernel_rfl) rfl) ?_
      refine LW.q rfl (Qt.load (v := .int .i64 y.page) (by kernel_rfl) rfl (fm_at hy 0 (by omega))) ?_
      refine LW.q rfl (Qt.lss rfl rfl) ?_
      refine LW.done ?_
      first | refine T.condF rfl ?_ | refine T.condPF rfl (by omega) ?_ | refine T.condBF rfl (by omega) ?_
      refine T.skip ?_
      refine T.region ?_
      refine LW.q rfl (Qt.move rfl) ?_
      refine LW.q rfl (Qt.move rfl) ?_
      first | refine LW.gT (t := 28) rfl rfl ?_ | refine LW.gT (t := 28) rfl (decide_eq_true (by omega)) ?_ | refine LW.gT (t := 28) rfl (by omega) ?_
      refine LW.q rfl (Qt.move rfl) ?_
      refine LW.q rfl (Qt.nilCheck rfl) ?_
      refine LW.q rfl (Qt.fieldAddr (off := 3) (by kernel_rfl) rfl) ?_
      refine LW.q rfl (Qt.load (v := .int .i64 y.pins) (by kernel_rfl) rfl (fm_at hy 3 (by omega))) ?_
      refine LW.q rfl (Qt.gtr rfl rfl) ?_
      refine LW.q rfl (Qt.pick rfl rfl) ?_
      refine LW.q rfl (Qt.assign rfl) ?_
      refine LW.done ?_
      refine T.region ?_
      refine LW.q rfl (Qt.add rfl rfl (wr64 (by omega) (by omega))) ?_
      refine LW.q rfl (Qt.move rfl) ?_
      refine LW.done ?_
      refine ⟨_, ?_, _, ⟨_, k + 1, _, ⟨by omega, by simpa using hy2⟩, rfl, (updS rfl (updS rfl (updS rfl (updS rfl rfl)))), rfl⟩, Sub.any⟩
      first | omega | (simp; omega)
    · skip
      refine T.exit ?_
      refine T.seq ?_
      refine T.seq ?_
      refine T.region ?_
      refine LW.q rfl (Qt.move rfl) ?_
      refine LW.done ?_
      first | refine T.condT rfl ?_ | refine T.condPT rfl (by omega) ?_ | refine T.condBT rfl (by omega) ?_
      refine T.seq ?_
      refine T.region ?_
      refine LW.q rfl (Qt.assign rfl) ?_
      refine LW.done ?_
      refine T.ret ?_
      exact ⟨.inl rfl, _, _, res [_] rfl ⟨rvT rfl, trivial⟩, ⟨rfl, rfl⟩, Sub.any⟩
set_option maxHeartbeats 4000000 in
set_option maxRecDepth 100000 in
theorem Bf.victim_one (B : Base) (g b gf first count : Nat) (pl : Option Addr) (cl : Nat) (x : Fm) (gl : Nat) (W : Wl) (D : DD) (j : Nat) (hj : x.page = j) (hx1 : x.pins = 0) (hx2 : x.used = true) (hx3 : x.dirty = true) (hx4 : x.b.length = 256) (gx : Nat) (hgx : x.p = some ⟨gx, 0, none⟩) (hdur : W.dur < 2 ^ 40) (hm : x.mark ≤ W.dur) (hsec : first + j < D.secs.length) (hmx : D.secs.length ≤ 4096) (hroom : D.pend.length < 2 ^ 32) :
    Fn Tryd.prog B 35 #[.pointer (some ⟨g, 0, none⟩)] [poolB g b gf 1 first count 0 pl 1 cl, fmR gf 1 [x], lgR pl 1 cl [.iface 44 (.pointer (some ⟨gl, 0, none⟩))], wlA gl b W, dskA b D, rB (.slice (some ⟨gx, 0, none⟩) 256 x.c) 256 x.b]
      (fun u l => u = .pointer (some ⟨gf, 0 + 0 * 6, none⟩) ∧ l = [poolB g b gf 1 first count 0 pl 1 cl, fmR gf 1 [{ x with used := false }], lgR pl 1 cl [.iface 44 (.pointer (some ⟨gl, 0, none⟩))], wlA gl b W, dskA b (D.write (first + j) x.b)]) := by
  refine Fn.enter1 105 Tryd.func35 rfl rfl (Nat.le_of_ble_eq_true rfl) (fun F => ?_)
  try simp only [List.cons_append, List.nil_append]
  refine T.seq ?_
  refine T.region ?_
  refine LW.q rfl (Qt.assign rfl) ?_
  refine LW.done ?_
  refine T.seq ?_
  refine T.region ?_
  refine LW.q rfl (Qt.assign rfl) ?_
  refine LW.done ?_
  refine T.seq ?_
  refine T.seq ?_
  refine T.region ?_
  refine LW.q rfl (Qt.move rfl) ?_
  refine LW.q rfl (Qt.nilCheck rfl) ?_
  refine LW.q rfl (Qt.fieldAddr (off := 3) (by kernel_rfl) rfl) ?_
  first | refine LW.q rfl (Qt.load (by kernel_rfl) rfl rfl) ?_ | refine LW.q rfl (Qt.load (by kernel_rfl) rfl (map_at _ _ _ (by omega))) ?_ | refine LW.q rfl (Qt.load (by kernel_rfl) rfl (flat_cell0 _ _ _ (by intros; rfl) _ (by omega) (by rfl))) ?_ | refine LW.q rfl (Qt.load (by kernel_rfl) rfl (flat_cell _ _ _ (by intros; rfl) _ _ (by omega) (by rfl))) ?_ | refine LW.q rfl (Qt.load (by kernel_rfl) rfl (bytes_at _ _ (by omega))) ?_
  refine LW.q rfl (Qt.len (e := 81) (sz := 6) (by kernel_rfl) rfl) ?_
  refine LW.q rfl (Qt.move rfl) ?_
  refine LW.done ?_
  refine T.block ?_
  refine T.loop (fun mz fz lz => ∃ (f0 : Fr) (k : Nat) (fb : Bool), (k ≤ 1 ∧ fb = decide (k = 0)) ∧ mz = 1 - k ∧ fz = (upd (upd (upd (upd f0 0 (.pointer (some ⟨g, 0, none⟩))) 3 (.bool fb)) 11 (.int .i64 1)) 12 (.int .i64 k)) ∧ lz = poolB g b gf 1 first count 0 pl 1 cl :: fmR gf 1 [x] :: lgR pl 1 cl [.iface 44 (.pointer (some ⟨gl, 0, none⟩))] :: wlA gl b W :: dskA b D :: rB (.slice (some ⟨gx, 0, none⟩) 256 x.c) 256 x.b :: F) ?_ ?_
  · refine ⟨_, _, ⟨_, 0, true, ⟨Nat.zero_le _, rfl⟩, rfl, (updS rfl (updS rfl (updS rfl (updS rfl rfl)))), rfl⟩, Sub.any⟩
  · skip
    rintro mz fz lz ⟨f0, k, fb, ⟨hk, hfb⟩, hmz, rfl, rfl⟩
    subst mz
    try simp only [List.cons_append, List.nil_append]
    refine T.seq ?_
    refine T.region ?_
    refine LW.q rfl (Qt.lss rfl rfl) ?_
    refine LW.done ?_
    refine T.seq ?_
    refine T.condP rfl (fun hlt => ?_) (fun hlt => ?_)
    · skip
      obtain rfl : k = 0 := by omega
      obtain rfl : fb = true := hfb
      refine T.skip ?_
      refine T.seq ?_
      refine T.block ?_
      refine T.seq ?_
      refine T.region ?_
      refine LW.q rfl (Qt.move rfl) ?_
      refine LW.q rfl (Qt.assign rfl) ?_
      refine LW.done ?_
      refine T.seq ?_
      refine T.region ?_
      refine LW.q rfl (Qt.move rfl) ?_
      refine LW.q rfl (Qt.nilCheck rfl) ?_
      refine LW.q rfl (Qt.fieldAddr (off := 3) (by kernel_rfl) rfl) ?_
      first | refine LW.q rfl (Qt.load (by kernel_rfl) rfl rfl) ?_ | refine LW.q rfl (Qt.load (by kernel_rfl) rfl (map_at _ _ _ (by omega))) ?_ | refine LW.q rfl (Qt.load (by kernel_rfl) rfl (flat_cell0 _ _ _ (by intros; rfl) _ (by omega) (by rfl))) ?_ | refine LW.q rfl (Qt.load (by kernel_rfl) rfl (flat_cell _ _ _ (by intros; rfl) _ _ (by omega) (by rfl))) ?_ | refine LW.q rfl (Qt.load (by kernel_rfl) rfl (bytes_at _ _ (by omega))) ?_
      refine LW.q rfl (Qt.move rfl) ?_
      refine LW.q rfl (Qt.index _ (e := 81) (sz := 6) (by kernel_rfl) rfl rfl rfl (by omega)) ?_
      refine LW.q rfl (Qt.assign rfl) ?_
      refine LW.done ?_
      refine T.seq ?_
      refine T.seq ?_
      refine T.region ?_
      refine LW.q rfl (Qt.move rfl) ?_
      refine LW.q rfl (Qt.nilCheck rfl) ?_
      refine LW.q rfl (Qt.fieldAddr0 (by kernel_rfl) rfl) ?_
      refine LW.q rfl (Qt.load (v := .int .i64 x.page) (by kernel_rfl) rfl (fm_at (Fs := [x]) (i := 0) rfl 0 (by omega))) ?_
      refine LW.q rfl (Qt.lss rfl rfl) ?_
      refine LW.done ?_
      first | refine T.condF rfl ?_ | refine T.condPF rfl (by omega) ?_ | refine T.condBF rfl (by omega) ?_
      refine T.skip ?_
      refine T.region ?_
      refine LW.q rfl (Qt.move rfl) ?_
      refine LW.q rfl (Qt.move rfl) ?_
      first | refine LW.gT (t := 28) rfl rfl ?_ | refine LW.gT (t := 28) rfl (decide_eq_true (by omega)) ?_ | refine LW.gT (t := 28) rfl (by omega) ?_
      refine LW.q rfl (Qt.move rfl) ?_
      refine LW.q rfl (Qt.nilCheck rfl) ?_
      refine LW.q rfl (Qt.fieldAddr (off := 3) (by kernel_rfl) rfl) ?_
      refine LW.q rfl (Qt.load (v := .int .i64 x.pins) (by kernel_rfl) rfl (fm_at (Fs := [x]) (i := 0) rfl 3 (by omega))) ?_
      refine LW.q rfl (Qt.gtr rfl rfl) ?_
      refine LW.q rfl (Qt.pick rfl rfl) ?_
      refine LW.q rfl (Qt.assign rfl) ?_
      refine LW.done ?_
      refine T.region ?_
      refine LW.q rfl (Qt.add rfl rfl (wr64 (by omega) (by omega))) ?_
      refine LW.q rfl (Qt.move rfl) ?_
      refine LW.done ?_
      refine ⟨_, ?_, _, ⟨_, 1, _, ⟨Nat.le_refl _, by rw [hx1]; rfl⟩, rfl, (updS rfl (updS rfl (updS rfl (updS rfl rfl)))), rfl⟩, Sub.any⟩
      first | omega | (simp; omega)
    · skip
      obtain rfl : k = 1 := by omega
      obtain rfl : fb = false := hfb
      refine T.exit ?_
      refine T.seq ?_
      refine T.seq ?_
      refine T.region ?_
      refine LW.q rfl (Qt.move rfl) ?_
      refine LW.done ?_
      first | refine T.condF rfl ?_ | refine T.condPF rfl (by omega) ?_ | refine T.condBF rfl (by omega) ?_
      clear hlt hk
      have hfe : fmR gf 1 [x] = fmR gf 1 [{ x with used := true }] := by rw [show ({ x with used := true } : Fm) = x by cases x; simp_all]
      rw [hfe]
      refine T.skip ?_
      refine T.block ?_
      refine T.loop (fun mz fz lz => ∃ (f0 : Fr) (mm : Nat) (u : Bool), (u = decide (mm = 1)) ∧ mz = mm ∧ fz = (upd f0 0 (.pointer (some ⟨g, 0, none⟩))) ∧ lz = poolB g b gf 1 first count 0 pl 1 cl :: fmR gf 1 [{ x with used := u }] :: lgR pl 1 cl [.iface 44 (.pointer (some ⟨gl, 0, none⟩))] :: wlA gl b W :: dskA b D :: rB (.slice (some ⟨gx, 0, none⟩) 256 x.c) 256 x.b :: F) ?_ ?_
      · refine ⟨_, _, ⟨_, 1, true, rfl, rfl, (updS rfl rfl), rfl⟩, Sub.any⟩
      · skip
        rintro mz fz lz ⟨f0, mm, u, hmm, hmz, rfl, rfl⟩
        subst mz
        try simp only [List.cons_append, List.nil_append]
        have hat : ∀ u, ([{ x with used := u }] : List Fm)[0]? = some { x with used := u } := fun u => rfl
        refine T.block ?_
        refine T.seq ?_
        refine T.drawAll 9 (by kernel_rfl) (Nat.le_of_ble_eq_true rfl) (by kernel_rfl) ?_
        refine RW.q 0 rfl rfl (by kernel_rfl) (Sub.refl _) (Qt.move rfl) ?_
        refine RW.q 1 rfl rfl (by kernel_rfl) (Sub.refl _) (Qt.nilCheck rfl) ?_
        refine RW.q 2 rfl rfl (by kernel_rfl) (Sub.refl _) (Qt.fieldAddr (off := 3) (by kernel_rfl) rfl) ?_
        first | refine RW.q 3 rfl rfl (by kernel_rfl) (Sub.refl _) (Qt.load (by kernel_rfl) rfl rfl) ?_ | refine RW.q 3 rfl rfl (by kernel_rfl) (Sub.refl _) (Qt.load (by kernel_rfl) rfl (map_at _ _ _ (by omega))) ?_ | refine RW.q 3 rfl rfl (by kernel_rfl) (Sub.refl _) (Qt.load (by kernel_rfl) rfl (flat_cell0 _ _ _ (by intros; rfl) _ (by omega) (by rfl))) ?_ | refine RW.q 3 rfl rfl (by kernel_rfl) (Sub.refl _) (Qt.load (by kernel_rfl) rfl (flat_cell _ _ _ (by intros; rfl) _ _ (by omega) (by rfl))) ?_ | refine RW.q 3 rfl rfl (by kernel_rfl) (Sub.refl _) (Qt.load (by kernel_rfl) rfl (bytes_at _ _ (by omega))) ?_
        refine RW.q 4 rfl rfl (by kernel_rfl) (Sub.refl _) (Qt.move rfl) ?_
        refine RW.q 5 rfl rfl (by kernel_rfl) (Sub.refl _) (Qt.nilCheck rfl) ?_
        refine RW.q 6 rfl rfl (by kernel_rfl) (Sub.refl _) (Qt.fieldAddr (off := 4) (by kernel_rfl) rfl) ?_
        first | refine RW.q 7 rfl rfl (by kernel_rfl) (Sub.refl _) (Qt.load (by kernel_rfl) rfl rfl) ?_ | refine RW.q 7 rfl rfl (by kernel_rfl) (Sub.refl _) (Qt.load (by kernel_rfl) rfl (map_at _ _ _ (by omega))) ?_ | refine RW.q 7 rfl rfl (by kernel_rfl) (Sub.refl _) (Qt.load (by kernel_rfl) rfl (flat_cell0 _ _ _ (by intros; rfl) _ (by omega) (by rfl))) ?_ | refine RW.q 7 rfl rfl (by kernel_rfl) (Sub.refl _) (Qt.load (by kernel_rfl) rfl (flat_cell _ _ _ (by intros; rfl) _ _ (by omega) (by rfl))) ?_ | refine RW.q 7 rfl rfl (by kernel_rfl) (Sub.refl _) (Qt.load (by kernel_rfl) rfl (bytes_at _ _ (by omega))) ?_
        refine RW.q 8 rfl rfl (by kernel_rfl) (Sub.refl _) (Qt.index _ (e := 81) (sz := 6) (by kernel_rfl) rfl rfl rfl (by omega)) ?_
        refine RW.done (by rfl) ?_
        simp only [List.drop_succ_cons, List.drop_zero, List.drop_nil]
        refine LW.q rfl (Qt.assign rfl) ?_
        refine LW.done ?_
        refine T.seq ?_
        refine T.drawAll 12 (by kernel_rfl) (Nat.le_of_ble_eq_true rfl) (by kernel_rfl) ?_
        refine RW.q 0 rfl rfl (by kernel_rfl) (Sub.refl _) (Qt.move rfl) ?_
        refine RW.q 1 rfl rfl (by kernel_rfl) (Sub.refl _) (Qt.move rfl) ?_
        refine RW.q 2 rfl rfl (by kernel_rfl) (Sub.refl _) (Qt.nilCheck rfl) ?_
        refine RW.q 3 rfl rfl (by kernel_rfl) (Sub.refl _) (Qt.fieldAddr (off := 4) (by kernel_rfl) rfl) ?_
        first | refine RW.q 4 rfl rfl (by kernel_rfl) (Sub.refl _) (Qt.load (by kernel_rfl) rfl rfl) ?_ | refine RW.q 4 rfl rfl (by kernel_rfl) (Sub.refl _) (Qt.load (by kernel_rfl) rfl (map_at _ _ _ (by omega))) ?_ | refine RW.q 4 rfl rfl (by kernel_rfl) (Sub.refl _) (Qt.load (by kernel_rfl) rfl (flat_cell0 _ _ _ (by intros; rfl) _ (by omega) (by rfl))) ?_ | refine RW.q 4 rfl rfl (by kernel_rfl) (Sub.refl _) (Qt.load (by kernel_rfl) rfl (flat_cell _ _ _ (by intros; rfl) _ _ (by omega) (by rfl))) ?_ | refine RW.q 4 rfl rfl (by kernel_rfl) (Sub.refl _) (Qt.load (by kernel_rfl) rfl (bytes_at _ _ (by omega))) ?_
        refine RW.q 5 rfl rfl (by kernel_rfl) (Sub.refl _) (Qt.add rfl rfl (wr64 (by omega) (by omega))) ?_
        refine RW.q 6 rfl rfl (by kernel_rfl) (Sub.refl _) (Qt.move rfl) ?_
        refine RW.q 7 rfl rfl (by kernel_rfl) (Sub.refl _) (Qt.nilCheck rfl) ?_
        refine RW.q 8 rfl rfl (by kernel_rfl) (Sub.refl _) (Qt.fieldAddr (off := 3) (by kernel_rfl) rfl) ?_
        first | refine RW.q 9 rfl rfl (by kernel_rfl) (Sub.refl _) (Qt.load (by kernel_rfl) rfl rfl) ?_ | refine RW.q 9 rfl rfl (by kernel_rfl) (Sub.refl _) (Qt.load (by kernel_rfl) rfl (map_at _ _ _ (by omega))) ?_ | refine RW.q 9 rfl rfl (by kernel_rfl) (Sub.refl _) (Qt.load (by kernel_rfl) rfl (flat_cell0 _ _ _ (by intros; rfl) _ (by omega) (by rfl))) ?_ | refine RW.q 9 rfl rfl (by kernel_rfl) (Sub.refl _) (Qt.load (by kernel_rfl) rfl (flat_cell _ _ _ (by intros; rfl) _ _ (by omega) (by rfl))) ?_ | refine RW.q 9 rfl rfl (by kernel_rfl) (Sub.refl _) (Qt.load (by kernel_rfl) rfl (bytes_at _ _ (by omega))) ?_
        refine RW.q 10 rfl rfl (by kernel_rfl) (Sub.refl _) (Qt.len (e := 81) (sz := 6) (by kernel_rfl) rfl) ?_
        refine RW.q 11 rfl rfl (by kernel_rfl) (Sub.refl _) (Qt.rem rfl rfl (by omega) (show (((0 : Nat) : Int) + 1).tmod ((1 : Nat) : Int) = ((0 : Nat) : Int) from rfl)) ?_
        refine RW.done (by rfl) ?_
        simp only [List.drop_succ_cons, List.drop_zero, List.drop_nil]
        refine LW.q rfl (Qt.nilCheck rfl) ?_
        refine LW.q rfl (Qt.fieldAddr (off := 4) (by kernel_rfl) rfl) ?_
        refine LW.e0 rfl (Ef.store1 (by kernel_rfl) rfl rfl rfl (by first | (simp; done) | (simp; omega)) ?_)
        try simp only [List.set_cons_zero, List.set_cons_succ]
        refine LW.done ?_
        refine T.block ?_
        refine T.seq ?_
        refine T.region ?_
        refine LW.q rfl (Qt.move rfl) ?_
        refine LW.q rfl (Qt.nilCheck rfl) ?_
        refine LW.q rfl (Qt.fieldAddr (off := 3) (by kernel_rfl) rfl) ?_
        refine LW.q rfl (Qt.load (v := .int .i64 x.pins) (by kernel_rfl) rfl (fm_at (hat u) 3 (by omega))) ?_
        refine LW.q rfl (Qt.gtr rfl rfl) ?_
        refine LW.q rfl (Qt.assign rfl) ?_
        refine LW.done ?_
        first | refine T.condF rfl ?_ | refine T.condPF rfl (by omega) ?_ | refine T.condBF rfl (by omega) ?_
        refine T.seq ?_
        refine T.region ?_
        refine LW.q rfl (Qt.move rfl) ?_
        refine LW.q rfl (Qt.nilCheck rfl) ?_
        refine LW.q rfl (Qt.fieldAddr (off := 5) (by kernel_rfl) rfl) ?_
        refine LW.q rfl (Qt.load (v := .bool u) (by kernel_rfl) rfl (fm_at (hat u) 5 (by omega))) ?_
        refine LW.q rfl (Qt.assign rfl) ?_
        refine LW.done ?_
        refine T.cond rfl (fun hu => ?_) (fun hu => ?_)
        · skip
          subst hu
          obtain rfl : mm = 1 := of_decide_eq_true hmm.symm
          refine T.region ?_
          refine LW.q rfl (Qt.move rfl) ?_
          refine LW.q rfl (Qt.nilCheck rfl) ?_
          refine LW.q rfl (Qt.fieldAddr (off := 5) (by kernel_rfl) rfl) ?_
          refine LW.e0 rfl (Ef.store1 (by kernel_rfl) rfl rfl rfl (by simp) ?_)
          rw [fm_set (y := { x with used := false }) (hat true) 5 (by omega) _ rfl, List.set_cons_zero]
          refine LW.done ?_
          refine ⟨_, ?_, _, ⟨_, 0, false, rfl, rfl, (updS rfl rfl), rfl⟩, Sub.any⟩
          first | omega | (simp; omega)
        · skip
          subst hu
          refine T.seq ?_
          refine T.seq ?_
          refine T.region ?_
          refine LW.q rfl (Qt.move rfl) ?_
          refine LW.q rfl (Qt.nilCheck rfl) ?_
          refine LW.q rfl (Qt.fieldAddr (off := 4) (by kernel_rfl) rfl) ?_
          refine LW.q rfl (Qt.load (v := .bool x.dirty) (by kernel_rfl) rfl (fm_at (hat false) 4 (by omega))) ?_
          refine LW.done ?_
          first | refine T.condT rfl ?_ | refine T.condPT rfl (hx3) ?_ | refine T.condBT rfl (hx3) ?_
          refine T.seq ?_
          refine T.region ?_
          refine LW.q rfl (Qt.move rfl) ?_
          refine LW.q rfl (Qt.move rfl) ?_
          refine LW.q rfl (Qt.nilCheck rfl) ?_
          refine LW.q rfl (Qt.fieldAddr (off := 2) (by kernel_rfl) rfl) ?_
          refine LW.q rfl (Qt.load (v := .int .i64 x.mark) (by kernel_rfl) rfl (fm_at (hat false) 2 (by omega))) ?_
          refine LW.e rfl (Ef.call (Bf.force1 B g b gf 1 first count 0 pl cl gl b W x.mark hdur hm) Tryd.func41 rfl rfl rfl ?_)
          rintro _ _ ⟨rfl, rfl⟩
          try simp only [List.cons_append, List.nil_append]
          refine LW.done ?_
          refine T.draw 20 ([poolB g b gf 1 first count 0 pl 1 cl, fmR gf 1 [{ x with used := false }]]) (by kernel_rfl) (Nat.le_of_ble_eq_true rfl) (by kernel_rfl) ?_
          refine RW.q 0 rfl rfl (by kernel_rfl) Sub.any (Qt.move rfl) ?_
          refine RW.q 1 rfl rfl (by kernel_rfl) Sub.any (Qt.nilCheck rfl) ?_
          refine RW.q 2 rfl rfl (by kernel_rfl) Sub.any (Qt.fieldAddr0 (by kernel_rfl) rfl) ?_
          refine RW.q 3 rfl rfl (by kernel_rfl) Sub.any (Qt.fieldAddr0 (by kernel_rfl) rfl) ?_
          first | refine RW.q 4 rfl rfl (by kernel_rfl) Sub.any (Qt.load (by kernel_rfl) rfl rfl) ?_ | refine RW.q 4 rfl rfl (by kernel_rfl) Sub.any (Qt.load (by kernel_rfl) rfl (map_at _ _ _ (by omega))) ?_ | refine RW.q 4 rfl rfl (by kernel_rfl) Sub.any (Qt.load (by kernel_rfl) rfl (flat_cell0 _ _ _ (by intros; rfl) _ (by omega) (by rfl))) ?_ | refine RW.q 4 rfl rfl (by kernel_rfl) Sub.any (Qt.load (by kernel_rfl) rfl (flat_cell _ _ _ (by intros; rfl) _ _ (by omega) (by rfl))) ?_ | refine RW.q 4 rfl rfl (by kernel_rfl) Sub.any (Qt.load (by kernel_rfl) rfl (bytes_at _ _ (by omega))) ?_
          refine RW.q 5 rfl rfl (by kernel_rfl) Sub.any (Qt.move rfl) ?_
          refine RW.q 6 rfl rfl (by kernel_rfl) Sub.any (Qt.nilCheck rfl) ?_
          refine RW.q 7 rfl rfl (by kernel_rfl) Sub.any (Qt.fieldAddr0 (by kernel_rfl) rfl) ?_
          refine RW.q 8 rfl rfl (by kernel_rfl) Sub.any (Qt.fieldAddr (off := 1) (by kernel_rfl) rfl) ?_
          first | refine RW.q 9 rfl rfl (by kernel_rfl) Sub.any (Qt.load (by kernel_rfl) rfl rfl) ?_ | refine RW.q 9 rfl rfl (by kernel_rfl) Sub.any (Qt.load (by kernel_rfl) rfl (map_at _ _ _ (by omega))) ?_ | refine RW.q 9 rfl rfl (by kernel_rfl) Sub.any (Qt.load (by kernel_rfl) rfl (flat_cell0 _ _ _ (by intros; rfl) _ (by omega) (by rfl))) ?_ | refine RW.q 9 rfl rfl (by kernel_rfl) Sub.any (Qt.load (by kernel_rfl) rfl (flat_cell _ _ _ (by intros; rfl) _ _ (by omega) (by rfl))) ?_ | refine RW.q 9 rfl rfl (by kernel_rfl) Sub.any (Qt.load (by kernel_rfl) rfl (bytes_at _ _ (by omega))) ?_
          refine RW.q 10 rfl rfl (by kernel_rfl) Sub.any (Qt.move rfl) ?_
          refine RW.q 11 rfl rfl (by kernel_rfl) Sub.any (Qt.nilCheck rfl) ?_
          refine RW.q 12 rfl rfl (by kernel_rfl) Sub.any (Qt.fieldAddr0 (by kernel_rfl) rfl) ?_
          refine RW.q 13 rfl rfl (by kernel_rfl) Sub.any (Qt.load (v := .int .i64 x.page) (by kernel_rfl) rfl (fm_at (hat false) 0 (by omega))) ?_
          refine RW.q 14 rfl rfl (by kernel_rfl) Sub.any (Qt.add rfl rfl (wr64 (by omega) (by omega))) ?_
          refine RW.q 15 rfl rfl (by kernel_rfl) Sub.any (Qt.move rfl) ?_
          refine RW.q 16 rfl rfl (by kernel_rfl) Sub.any (Qt.nilCheck rfl) ?_
          refine RW.q 17 rfl rfl (by kernel_rfl) Sub.any (Qt.fieldAddr (off := 1) (by kernel_rfl) rfl) ?_
          refine RW.q 18 rfl rfl (by kernel_rfl) Sub.any (Qt.load (v := .slice (some ⟨gx, 0, none⟩) 256 x.c) (by kernel_rfl) rfl (by simp [hgx, hx4])) ?_
          refine RW.one 19 (by kernel_rfl) ?_
          refine RO.eS rfl rfl (Ef.call (Dk.writeF B b D (rB (.slice (some ⟨gx, 0, none⟩) 256 x.c) 256 x.b) gx 0 x.c (first + j) _ (by omega) x.b (row_bytes (p := none)) hsec hx4 hroom) Tryd.func42 rfl rfl rfl ?_)
          rintro _ _ ⟨rfl, rfl⟩
          try simp only [List.cons_append, List.nil_append]
          refine ⟨Sub.any, ?_⟩
          refine RW.done (by rfl) ?_
          simp only [List.drop_succ_cons, List.drop_zero, List.drop_nil]
          refine LW.done ?_
          refine T.seq ?_
          refine T.region ?_
          refine LW.q rfl (Qt.move rfl) ?_
          refine LW.q rfl (Qt.assign rfl) ?_
          refine LW.done ?_
          refine T.ret ?_
          exact ⟨.inl rfl, _, _, res [_] rfl ⟨rvT rfl, trivial⟩, ⟨rfl, rfl⟩, Sub.any⟩

/-- Pin where the page is in no frame, by what victim answers. -/
abbrev fmNew (page : Int) (p : Option Addr) (c : Nat) (b : List UInt8) : Fm := ⟨page, 0, 1, false, true, p, c, b⟩
set_option maxHeartbeats 2000000 in
set_option maxRecDepth 100000 in
theorem Bf.pin_range (B : Base) (g b gf n first count hand : Nat) (pl : Option Addr) (nl cl : Nat) (page : Int) (h : page < 0 ∨ (count : Int) ≤ page) :
    Fn Tryd.prog B 15 #[.pointer (some ⟨g, 0, none⟩), .int .i64 page] [poolB g b gf n first count hand pl nl cl] (fun u l => u = .int .i64 1 ∧ l = [poolB g b gf n first count hand pl nl cl]) := by
  refine Fn.enter2 59 Tryd.func15 rfl rfl (Nat.le_of_ble_eq_true rfl) (fun F => ?_)
  try simp only [List.cons_append, List.nil_append]
  refine T.seq ?_
  refine T.region ?_
  refine LW.q rfl (Qt.assign rfl) ?_
  refine LW.done ?_
  refine T.seq ?_
  refine T.seq ?_
  refine T.region ?_
  refine LW.q rfl (Qt.move rfl) ?_
  refine LW.q rfl (Qt.lss rfl rfl) ?_
  refine LW.q rfl (Qt.move rfl) ?_
  refine LW.split (t := 10) rfl (fun h1 => ?_) (fun h1 => ?_)
  · skip
    try replace h1 := of_decide_eq_true h1
    refine LW.s rfl ?_
    refine LW.s rfl ?_
    refine LW.s rfl ?_
    refine LW.s rfl ?_
    refine LW.s rfl ?_
    refine LW.s rfl ?_
    refine LW.s rfl ?_
    refine LW.q rfl (Qt.pick rfl rfl) ?_
    refine LW.done ?_
    first | refine T.condT rfl ?_ | refine T.condPT rfl (by omega) ?_ | refine T.condBT rfl (by omega) ?_
    refine T.seq ?_
    refine T.region ?_
    refine LW.q rfl (Qt.assign rfl) ?_
    refine LW.done ?_
    refine T.ret ?_
    exact ⟨.inl rfl, _, _, res [_] rfl ⟨rvT rfl, trivial⟩, ⟨rfl, rfl⟩, Sub.any⟩
  · skip
    try replace h1 := of_decide_eq_false h1
    refine LW.q rfl (Qt.move rfl) ?_
    refine LW.q rfl (Qt.move rfl) ?_
    refine LW.q rfl (Qt.nilCheck rfl) ?_
    refine LW.q rfl (Qt.fieldAddr0 (by kernel_rfl) rfl) ?_
    refine LW.q rfl (Qt.fieldAddr (off := 2) (by kernel_rfl) rfl) ?_
    first | refine LW.q rfl (Qt.load (by kernel_rfl) rfl rfl) ?_ | refine LW.q rfl (Qt.load (by kernel_rfl) rfl (map_at _ _ _ (by omega))) ?_ | refine LW.q rfl (Qt.load (by kernel_rfl) rfl (flat_cell0 _ _ _ (by intros; rfl) _ (by omega) (by rfl))) ?_ | refine LW.q rfl (Qt.load (by kernel_rfl) rfl (flat_cell _ _ _ (by intros; rfl) _ _ (by omega) (by rfl))) ?_ | refine LW.q rfl (Qt.load (by kernel_rfl) rfl (bytes_at _ _ (by omega))) ?_
    refine LW.q rfl (Qt.geq rfl rfl) ?_
    refine LW.q rfl (Qt.pick rfl rfl) ?_
    refine LW.done ?_
    first | refine T.condT rfl ?_ | refine T.condPT rfl (by omega) ?_ | refine T.condBT rfl (by omega) ?_
    refine T.seq ?_
    refine T.region ?_
    refine LW.q rfl (Qt.assign rfl) ?_
    refine LW.done ?_
    refine T.ret ?_
    exact ⟨.inl rfl, _, _, res [_] rfl ⟨rvT rfl, trivial⟩, ⟨rfl, rfl⟩, Sub.any⟩
set_option maxHeartbeats 2000000 in
set_option maxRecDepth 100000 in
theorem Bf.pin_full (B : Base) (g b gf n first count hand : Nat) (pl : Option Addr) (nl cl : Nat) (Fs : List Fm) (page : Int) (h0 : 0 ≤ page) (hc : page < count) (hn : Fs.length = n) (hn2 : n ≤ 4096) (hno : ∀ (j : Nat) (y : Fm), Fs[j]? = some y → y.page ≠ page) (hall : ∀ (j : Nat) (y : Fm), Fs[j]? = some y → 0 ≤ y.page ∧ 0 < y.pins) :
    Fn Tryd.prog B 15 #[.pointer (some ⟨g, 0, none⟩), .int .i64 page] [poolB g b gf n first count hand pl nl cl, fmR gf n Fs] (fun u l => u = .int .i64 60 ∧ l = [poolB g b gf n first count hand pl nl cl, fmR gf n Fs]) := by
  refine Fn.enter2 59 Tryd.func15 rfl rfl (Nat.le_of_ble_eq_true rfl) (fun F => ?_)
  try simp only [List.cons_append, List.nil_append]
  refine T.seq ?_
  refine T.region ?_
  refine LW.q rfl (Qt.assign rfl) ?_
  refine LW.done ?_
  refine T.seq ?_
  refine T.seq ?_
  refine T.region ?_
  refine LW.q rfl (Qt.move rfl) ?_
  refine LW.q rfl (Qt.lss rfl rfl) ?_
  refine LW.q rfl (Qt.move rfl) ?_
  first | refine LW.gF (t := 10) rfl rfl ?_ | refine LW.gF (t := 10) rfl (decide_eq_false (by omega)) ?_ | refine LW.gF (t := 10) rfl (by omega) ?_
  refine LW.q rfl (Qt.move rfl) ?_
  refine LW.q rfl (Qt.move rfl) ?_
  refine LW.q rfl (Qt.nilCheck rfl) ?_
  refine LW.q rfl (Qt.fieldAddr0 (by kernel_rfl) rfl) ?_
  refine LW.q rfl (Qt.fieldAddr (off := 2) (by kernel_rfl) rfl) ?_
  first | refine LW.q rfl (Qt.load (by kernel_rfl) rfl rfl) ?_ | refine LW.q rfl (Qt.load (by kernel_rfl) rfl (map_at _ _ _ (by omega))) ?_ | refine LW.q rfl (Qt.load (by kernel_rfl) rfl (flat_cell0 _ _ _ (by intros; rfl) _ (by omega) (by rfl))) ?_ | refine LW.q rfl (Qt.load (by kernel_rfl) rfl (flat_cell _ _ _ (by intros; rfl) _ _ (by omega) (by rfl))) ?_ | refine LW.q rfl (Qt.load (by kernel_rfl) rfl (bytes_at _ _ (by omega))) ?_
  refine LW.q rfl (Qt.geq rfl rfl) ?_
  refine LW.q rfl (Qt.pick rfl rfl) ?_
  refine LW.done ?_
  first | refine T.condF rfl ?_ | refine T.condPF rfl (by omega) ?_ | refine T.condBF rfl (by omega) ?_
  refine T.skip ?_
  refine T.seq ?_
  refine T.region ?_
  refine LW.q rfl (Qt.move rfl) ?_
  refine LW.q rfl (Qt.move rfl) ?_
  refine LW.e rfl (Ef.call (Bf.find_none B g b gf n first count hand pl nl cl Fs page hn hn2 (fun j y hj e => absurd e (hno j y hj))) Tryd.func34 rfl rfl rfl ?_)
  rintro _ _ ⟨rfl, rfl⟩
  try simp only [List.cons_append, List.nil_append]
  refine LW.q rfl (Qt.assign rfl) ?_
  refine LW.done ?_
  refine T.seq ?_
  refine T.seq ?_
  refine T.region ?_
  refine LW.q rfl (Qt.move rfl) ?_
  first | refine LW.q rfl (Qt.eqlNil (by kernel_rfl) rfl rfl) ?_ | refine LW.q rfl (Qt.eqlNN (by kernel_rfl) rfl rfl) ?_
  refine LW.done ?_
  first | refine T.condT rfl ?_ | refine T.condPT rfl (by omega) ?_ | refine T.condBT rfl (by omega) ?_
  refine T.seq ?_
  refine T.region ?_
  refine LW.q rfl (Qt.move rfl) ?_
  refine LW.e rfl (Ef.call (Bf.victim_full B g b gf n first count hand pl nl cl Fs hn hn2 hall) Tryd.func35 rfl rfl rfl ?_)
  rintro _ _ ⟨rfl, rfl⟩
  try simp only [List.cons_append, List.nil_append]
  refine LW.q rfl (Qt.assign rfl) ?_
  refine LW.done ?_
  refine T.seq ?_
  refine T.seq ?_
  refine T.region ?_
  refine LW.q rfl (Qt.move rfl) ?_
  first | refine LW.q rfl (Qt.eqlNil (by kernel_rfl) rfl rfl) ?_ | refine LW.q rfl (Qt.eqlNN (by kernel_rfl) rfl rfl) ?_
  refine LW.done ?_
  first | refine T.condT rfl ?_ | refine T.condPT rfl (by omega) ?_ | refine T.condBT rfl (by omega) ?_
  refine T.seq ?_
  refine T.region ?_
  refine LW.q rfl (Qt.assign rfl) ?_
  refine LW.done ?_
  refine T.ret ?_
  exact ⟨.inl rfl, _, _, res [_] rfl ⟨rvT rfl, trivial⟩, ⟨rfl, rfl⟩, Sub.any⟩
set_option maxHeartbeats 4000000 in
set_option maxRecDepth 100000 in
theorem Bf.pin_free (B : Base) (g b gf n first count hand : Nat) (pl : Option Addr) (nl cl : Nat) (Fs : List Fm) (D : DD) (page : Int) (j : Nat) (hj : page = j) (hc : j < count) (hn : Fs.length = n) (hn2 : n ≤ 4096) (hno : ∀ (k : Nat) (y : Fm), Fs[k]? = some y → y.page ≠ page) (i : Nat) (x : Fm) (hx : Fs[i]? = some x) (hp : x.page < 0) (hfirst : ∀ (k : Nat), k < i → ∀ y : Fm, Fs[k]? = some y → 0 ≤ y.page) (hsec : first + count ≤ D.secs.length) (hmx : D.secs.length ≤ 4096) (hroom : D.pend.length < 2 ^ 32) (hrl : (D.read (first + j)).length = 256) :
    Fn Tryd.prog B 15 #[.pointer (some ⟨g, 0, none⟩), .int .i64 page] [poolB g b gf n first count hand pl nl cl, fmR gf n Fs, dskA b D] (fun u l => ∃ gx c, u = .int .i64 0 ∧ l = [rB (.slice (some ⟨gx, 0, none⟩) 256 c) 256 (D.read (first + j)), poolB g b gf n first count hand pl nl cl, fmR gf n (Fs.set i (fmNew page (some ⟨gx, 0, none⟩) c (D.read (first + j)))), dskA b D]) := by
  have hi : i < Fs.length := (List.getElem?_eq_some_iff.1 hx).1
  have hfl := fm_len Fs
  refine Fn.enter2 59 Tryd.func15 rfl rfl (Nat.le_of_ble_eq_true rfl) (fun F => ?_)
  try simp only [List.cons_append, List.nil_append]
  refine T.seq ?_
  refine T.region ?_
  refine LW.q rfl (Qt.assign rfl) ?_
  refine LW.done ?_
  refine T.seq ?_
  refine T.seq ?_
  refine T.region ?_
  refine LW.q rfl (Qt.move rfl) ?_
  refine LW.q rfl (Qt.lss rfl rfl) ?_
  refine LW.q rfl (Qt.move rfl) ?_
  first | refine LW.gF (t := 10) rfl rfl ?_ | refine LW.gF (t := 10) rfl (decide_eq_false (by omega)) ?_ | refine LW.gF (t := 10) rfl (by omega) ?_
  refine LW.q rfl (Qt.move rfl) ?_
  refine LW.q rfl (Qt.move rfl) ?_
  refine LW.q rfl (Qt.nilCheck rfl) ?_
  refine LW.q rfl (Qt.fieldAddr0 (by kernel_rfl) rfl) ?_
  refine LW.q rfl (Qt.fieldAddr (off := 2) (by kernel_rfl) rfl) ?_
  first | refine LW.q rfl (Qt.load (by kernel_rfl) rfl rfl) ?_ | refine LW.q rfl (Qt.load (by kernel_rfl) rfl (map_at _ _ _ (by omega))) ?_ | refine LW.q rfl (Qt.load (by kernel_rfl) rfl (flat_cell0 _ _ _ (by intros; rfl) _ (by omega) (by rfl))) ?_ | refine LW.q rfl (Qt.load (by kernel_rfl) rfl (flat_cell _ _ _ (by intros; rfl) _ _ (by omega) (by rfl))) ?_ | refine LW.q rfl (Qt.load (by kernel_rfl) rfl (bytes_at _ _ (by omega))) ?_
  refine LW.q rfl (Qt.geq rfl rfl) ?_
  refine LW.q rfl (Qt.pick rfl rfl) ?_
  refine LW.done ?_
  first | refine T.condF rfl ?_ | refine T.condPF rfl (by omega) ?_ | refine T.condBF rfl (by omega) ?_
  refine T.skip ?_
  refine T.seq ?_
  refine T.region ?_
  refine LW.q rfl (Qt.move rfl) ?_
  refine LW.q rfl (Qt.move rfl) ?_
  refine LW.e rfl (Ef.call (Bf.find_none B g b gf n first count hand pl nl cl Fs page hn hn2 (fun j y hj e => absurd e (hno j y hj))) Tryd.func34 rfl rfl rfl ?_)
  rintro _ _ ⟨rfl, rfl⟩
  try simp only [List.cons_append, List.nil_append]
  refine LW.q rfl (Qt.assign rfl) ?_
  refine LW.done ?_
  refine T.seq ?_
  refine T.seq ?_
  refine T.region ?_
  refine LW.q rfl (Qt.move rfl) ?_
  first | refine LW.q rfl (Qt.eqlNil (by kernel_rfl) rfl rfl) ?_ | refine LW.q rfl (Qt.eqlNN (by kernel_rfl) rfl rfl) ?_
  refine LW.done ?_
  first | refine T.condT rfl ?_ | refine T.condPT rfl (by omega) ?_ | refine T.condBT rfl (by omega) ?_
  refine T.seq ?_
  refine T.region ?_
  refine LW.q rfl (Qt.move rfl) ?_
  refine LW.e rfl (Ef.call (Bf.victim_free B g b gf n first count hand pl nl cl Fs i x hn hn2 hx hp hfirst) Tryd.func35 rfl rfl rfl ?_)
  rintro _ _ ⟨rfl, rfl⟩
  try simp only [List.cons_append, List.nil_append]
  refine LW.q rfl (Qt.assign rfl) ?_
  refine LW.done ?_
  refine T.seq ?_
  refine T.seq ?_
  refine T.region ?_
  refine LW.q rfl (Qt.move rfl) ?_
  first | refine LW.q rfl (Qt.eqlNil (by kernel_rfl) rfl rfl) ?_ | refine LW.q rfl (Qt.eqlNN (by kernel_rfl) rfl rfl) ?_
  refine LW.done ?_
  first | refine T.condF rfl ?_ | refine T.condPF rfl (by omega) ?_ | refine T.condBF rfl (by omega) ?_
  refine T.skip ?_
  refine T.seq ?_
  refine T.drawBl 17 none (by kernel_rfl) (Nat.le_of_ble_eq_true rfl) (by kernel_rfl) ?_
  refine RW.q 0 rfl rfl (by kernel_rfl) Sub.any (Qt.move rfl) ?_
  refine RW.q 1 rfl rfl (by kernel_rfl) Sub.any (Qt.nilCheck rfl) ?_
  refine RW.q 2 rfl rfl (by kernel_rfl) Sub.any (Qt.fieldAddr0 (by kernel_rfl) rfl) ?_
  refine RW.q 3 rfl rfl (by kernel_rfl) Sub.any (Qt.fieldAddr0 (by kernel_rfl) rfl) ?_
  first | refine RW.q 4 rfl rfl (by kernel_rfl) Sub.any (Qt.load (by kernel_rfl) rfl rfl) ?_ | refine RW.q 4 rfl rfl (by kernel_rfl) Sub.any (Qt.load (by kernel_rfl) rfl (map_at _ _ _ (by omega))) ?_ | refine RW.q 4 rfl rfl (by kernel_rfl) Sub.any (Qt.load (by kernel_rfl) rfl (flat_cell0 _ _ _ (by intros; rfl) _ (by omega) (by rfl))) ?_ | refine RW.q 4 rfl rfl (by kernel_rfl) Sub.any (Qt.load (by kernel_rfl) rfl (flat_cell _ _ _ (by intros; rfl) _ _ (by omega) (by rfl))) ?_ | refine RW.q 4 rfl rfl (by kernel_rfl) Sub.any (Qt.load (by kernel_rfl) rfl (bytes_at _ _ (by omega))) ?_
  refine RW.q 5 rfl rfl (by kernel_rfl) Sub.any (Qt.move rfl) ?_
  refine RW.q 6 rfl rfl (by kernel_rfl) Sub.any (Qt.nilCheck rfl) ?_
  refine RW.q 7 rfl rfl (by kernel_rfl) Sub.any (Qt.fieldAddr0 (by kernel_rfl) rfl) ?_
  refine RW.q 8 rfl rfl (by kernel_rfl) Sub.any (Qt.fieldAddr (off := 1) (by kernel_rfl) rfl) ?_
  first | refine RW.q 9 rfl rfl (by kernel_rfl) Sub.any (Qt.load (by kernel_rfl) rfl rfl) ?_ | refine RW.q 9 rfl rfl (by kernel_rfl) Sub.any (Qt.load (by kernel_rfl) rfl (map_at _ _ _ (by omega))) ?_ | refine RW.q 9 rfl rfl (by kernel_rfl) Sub.any (Qt.load (by kernel_rfl) rfl (flat_cell0 _ _ _ (by intros; rfl) _ (by omega) (by rfl))) ?_ | refine RW.q 9 rfl rfl (by kernel_rfl) Sub.any (Qt.load (by kernel_rfl) rfl (flat_cell _ _ _ (by intros; rfl) _ _ (by omega) (by rfl))) ?_ | refine RW.q 9 rfl rfl (by kernel_rfl) Sub.any (Qt.load (by kernel_rfl) rfl (bytes_at _ _ (by omega))) ?_
  refine RW.q 10 rfl rfl (by kernel_rfl) Sub.any (Qt.move rfl) ?_
  refine RW.q 11 rfl rfl (by kernel_rfl) Sub.any (Qt.add rfl rfl (wr64 (by omega) (by omega))) ?_
  refine RW.one 12 (by kernel_rfl) ?_
  refine RO.eS rfl rfl (Ef.call (Dk.readF B b D (first + j) _ (by omega) (by omega) hroom) Tryd.func19 rfl rfl rfl ?_)
  rintro _ _ ⟨gx, cx, rfl, rfl⟩
  try simp only [List.cons_append, List.nil_append]
  obtain ⟨dat, hdat⟩ : ∃ dat, D.read (first + j) = dat := ⟨_, rfl⟩
  rw [hdat] at hrl
  rw [hdat]
  refine ⟨Sub.any, ?_⟩
  refine RW.q 13 rfl rfl (by kernel_rfl) Sub.any (Qt.move rfl) ?_
  refine RW.q 14 rfl rfl (by kernel_rfl) Sub.any (Qt.extract rfl rfl) ?_
  refine RW.q 15 rfl rfl (by kernel_rfl) Sub.any (Qt.extract rfl rfl) ?_
  refine RW.q 16 rfl rfl (by kernel_rfl) Sub.any (Qt.assign rfl) ?_
  refine RW.done (by rfl) ?_
  simp only [List.drop_succ_cons, List.drop_zero, List.drop_nil]
  refine LW.q rfl (Qt.assign rfl) ?_
  refine LW.done ?_
  refine T.region ?_
  refine LW.q rfl (Qt.move rfl) ?_
  refine LW.q rfl (Qt.move rfl) ?_
  refine LW.q rfl (Qt.move rfl) ?_
  refine LW.q rfl (Qt.build [(0, 1), (1, 1), (2, 1), (3, 1), (4, 1), (5, 1)] [.int .i64 0, .slice none 0 0, .int .i64 0, .int .i64 0, .bool false, .bool false] [_, _, _, _, _, _] [(0, _), (1, _)] (by kernel_rfl) (by unfold zeroB; kernel_rfl) rfl rfl) ?_
  refine LW.q rfl (Qt.nilCheck rfl) ?_
  refine LW.e0 rfl (Ef.store (fmC ⟨page, 0, 0, false, false, some ⟨gx, 0, none⟩, cx, dat⟩) (by kernel_rfl) rfl rfl (by simp only [fmC, hrl]; rfl) rfl (by simp only [List.length_cons, List.length_nil]; omega) ?_)
  rw [fm_splice hi]
  have h2 : (Fs.set i ⟨page, 0, 0, false, false, some ⟨gx, 0, none⟩, cx, dat⟩)[i]? = some ⟨page, 0, 0, false, false, some ⟨gx, 0, none⟩, cx, dat⟩ := by rw [List.getElem?_set_self hi]
  have hfl2 := fm_len (Fs.set i ⟨page, 0, 0, false, false, some ⟨gx, 0, none⟩, cx, dat⟩)
  rw [List.length_set] at hfl2
  refine LW.done ?_
  refine T.seq ?_
  refine T.region ?_
  refine LW.q rfl (Qt.move rfl) ?_
  refine LW.q rfl (Qt.nilCheck rfl) ?_
  refine LW.q rfl (Qt.fieldAddr (off := 3) (by kernel_rfl) rfl) ?_
  refine LW.q rfl (Qt.load (v := .int .i64 0) (by kernel_rfl) rfl (fm_at h2 3 (by omega))) ?_
  refine LW.q rfl (Qt.add rfl rfl (wr64 (by omega) (by omega))) ?_
  refine LW.q rfl (Qt.nilCheck rfl) ?_
  refine LW.q rfl (Qt.fieldAddr (off := 3) (by kernel_rfl) rfl) ?_
  refine LW.e0 rfl (Ef.store1 (by kernel_rfl) rfl rfl rfl (by omega) ?_)
  rw [fm_set (y := ⟨page, 0, 1, false, false, some ⟨gx, 0, none⟩, cx, dat⟩) h2 3 (by omega) (.int .i64 (0 + 1)) rfl, List.set_set]
  have h3 : (Fs.set i ⟨page, 0, 1, false, false, some ⟨gx, 0, none⟩, cx, dat⟩)[i]? = some ⟨page, 0, 1, false, false, some ⟨gx, 0, none⟩, cx, dat⟩ := by rw [List.getElem?_set_self hi]
  have hfl3 := fm_len (Fs.set i ⟨page, 0, 1, false, false, some ⟨gx, 0, none⟩, cx, dat⟩)
  rw [List.length_set] at hfl3
  refine LW.done ?_
  refine T.seq ?_
  refine T.region ?_
  refine LW.q rfl (Qt.move rfl) ?_
  refine LW.q rfl (Qt.nilCheck rfl) ?_
  refine LW.q rfl (Qt.fieldAddr (off := 5) (by kernel_rfl) rfl) ?_
  refine LW.e0 rfl (Ef.store1 (by kernel_rfl) rfl rfl rfl (by omega) ?_)
  rw [fm_set (y := fmNew page (some ⟨gx, 0, none⟩) cx dat) h3 5 (by omega) _ rfl, List.set_set]
  refine LW.done ?_
  refine T.seq ?_
  refine T.region ?_
  refine LW.q rfl (Qt.assign rfl) ?_
  refine LW.done ?_
  refine T.ret ?_
  exact ⟨.inl rfl, _, _, res [_] rfl ⟨rvT rfl, trivial⟩, ⟨gx, cx, rfl, rfl⟩, Sub.any⟩
end Go.Proofs.YtegohgaccmkigaaDoor
