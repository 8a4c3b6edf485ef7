/- The law HeapPlays of annalslaw08 holds (its card): for all arguments of bulk at most 1048576 the call returns true and the arguments read as before. Condition: the bound of the second form. -/
import Derived.Test.YtiooeiapplnafaaGreatDoorZHeapPlays1
set_option linter.unusedSimpArgs false
set_option linter.unusedVariables false
set_option maxRecDepth 100000
set_option maxHeartbeats 16000000
namespace Go.Proofs.YtiooeiapplnafaaGreatDoor
open Go.RowKit
theorem eqVer (a b : Ver) : EqSt Tryz.prog 175 #[.int .i64 a.page, .int .i64 a.slot, .int .i64 a.beg, .int .i64 a.fin, strW a.data] #[.int .i64 b.page, .int .i64 b.slot, .int .i64 b.beg, .int .i64 b.fin, strW b.data] (decide (a = b)) := by
  refine EqSt.mk' (by kernel_rfl) Tryz.underlying175 (by kernel_rfl) fun d0 w => ?_
  obtain ⟨a1, a2, a3, a4, a5⟩ := a
  obtain ⟨b1, b2, b3, b4, b5⟩ := b
  dsimp only
  refine Eq.trans (eqF_int w (a := (a1 : Int)) (b := b1) rfl Tryz.underlying3 rfl rfl) ?_
  by_cases h1 : (a1 : Int) = b1
  · rw [if_pos h1]
    refine Eq.trans (eqF_int w (a := (a2 : Int)) (b := b2) rfl Tryz.underlying3 rfl rfl) ?_
    by_cases h2 : (a2 : Int) = b2
    · rw [if_pos h2]
      refine Eq.trans (eqF_int w (a := a3) (b := b3) rfl Tryz.underlying2 rfl rfl) ?_
      by_cases h3 : a3 = b3
      · rw [if_pos h3]
        refine Eq.trans (eqF_int w (a := a4) (b := b4) rfl Tryz.underlying2 rfl rfl) ?_
        by_cases h4 : a4 = b4
        · rw [if_pos h4]
          refine Eq.trans (eqF_str w (a := a5) (b := b5) rfl Tryz.underlying9 rfl rfl) ?_
          by_cases h5 : a5 = b5
          · rw [if_pos h5, eqF_nil]
            have e1 : a1 = b1 := by omega
            have e2 : a2 = b2 := by omega
            simp [e1, e2, h3, h4, h5]
          · rw [if_neg h5]; simp [h5]
        · rw [if_neg h4]; simp [h4]
      · rw [if_neg h3]; simp [h3]
    · rw [if_neg h2]
      have : a2 ≠ b2 := by omega
      simp [this]
  · rw [if_neg h1]
    have : a1 ≠ b1 := by omega
    simp [this]
theorem Hr.same (B : Base) (X Y : List Ver) (p1 p2 : Option Addr) (c1 c2 : Nat) (hb : X.length < 2 ^ 40) : Fn Tryz.prog B 80 #[.slice p1 X.length c1, .slice p2 Y.length c2] [verR p1 X.length c1 X, verR p2 Y.length c2 Y] (fun u l => u = .bool (decide (X = Y)) ∧ l = []) := by
 refine Fn.enter2 26 Tryz.func80 rfl rfl (nB rfl) (fun F => ?_)
 try simp only [cA, nA]
 refine T.own fun w ho => ?_
 have hp1 : 0 < X.length → ∃ g, p1 = some ⟨g, 0, none⟩ := (ho.slice_at (p := p1) (m := X.length) (c := c1)).2.1
 have hp2 : 0 < Y.length → ∃ g, p2 = some ⟨g, 0, none⟩ := (ho.tl.slice_at (p := p2) (m := Y.length) (c := c2)).2.1
 clear ho
 refine TS (La rfl rfl (Ld (Ts (TS (Lm rfl rfl ?_)))))
 refine Lq rfl (yI (e := 175) (sz := 5) (by kernel_rfl) rfl) (Lm rfl rfl (Lq rfl (yI (e := 175) (sz := 5) (by kernel_rfl) rfl) (Lq rfl (yW rfl rfl) (Ld ?_))))
 refine yN rfl (fun hne => ?_) (fun hne => ?_)
 ·
  rw [show decide (X = Y) = false by rw [decide_eq_false_iff_not]; intro e; rw [e] at hne; exact hne rfl]
  refine TS (La rfl rfl (Ld (T.ret ?_)))
  exact ⟨.inl rfl, _, _, res [_] rfl ⟨rvT rfl, trivial⟩, ⟨rfl, rfl⟩, Sa⟩
 have hlen : X.length = Y.length := by omega
 refine Tk (Ts (TS (La rfl rfl (Ld (yH ?_)))))
 refine zG (fun mz fz lz => ∃ (f0 : Fr) (i : Nat), (i ≤ X.length ∧ X.take i = Y.take i) ∧ mz = X.length - i ∧ fz = (upd (upd (upd f0 0 (.slice p1 X.length c1)) 1 (.slice p2 Y.length c2)) 5 (.int .i64 i)) ∧ lz = verR p1 X.length c1 X :: verR p2 Y.length c2 Y :: F) ?_ ?_
 · refine ⟨_, _, ⟨_, 0, ⟨Nat.zero_le _, rfl⟩, rfl, (updS rfl (updS rfl (updS rfl rfl))), rfl⟩, Sa⟩
 rintro mz fz lz ⟨f0, i, ⟨hi, htk⟩, hmz, rfl, rfl⟩
 subst mz
 refine Ts (TS (Lm rfl rfl (Lm rfl rfl (Lq rfl (yI (e := 175) (sz := 5) (by kernel_rfl) rfl) (Lq rfl (yM rfl rfl) (Ld ?_))))))
 refine yN rfl (fun hlt => ?_) (fun hlt => ?_)
 ·
  obtain ⟨g1, rfl⟩ := hp1 (by omega)
  obtain ⟨g2, rfl⟩ := hp2 (by omega)
  obtain ⟨x, hx⟩ : ∃ x, X[i]'(by omega) = x := ⟨_, rfl⟩
  obtain ⟨y, hy⟩ : ∃ y, Y[i]'(by omega) = y := ⟨_, rfl⟩
  by_cases he : x = y
  ·
   refine Tk (Ts (yH (Ts (zU 9 (by kernel_rfl) (nB rfl) (by kernel_rfl) (Rq 0 rfl rfl (by kernel_rfl) (Sr _) (Qm rfl) (Rq 1 rfl rfl (by kernel_rfl) (Sr _) (Qm rfl) (Rq 2 rfl rfl (by kernel_rfl) (Sr _) (Qi _ (e := 175) (sz := 5) (by kernel_rfl) rfl rfl rfl (by omega)) ?_)))))))
   refine Rq 3 rfl rfl (by kernel_rfl) (Sr _) (QL [.int .i64 x.page, .int .i64 x.slot, .int .i64 x.beg, .int .i64 x.fin, strW x.data] (by kernel_rfl) rfl (by rw [show [Value.int .i64 x.page, .int .i64 x.slot, .int .i64 x.beg, .int .i64 x.fin, strW x.data] = vrC (X[i]'(by omega)) by rw [hx]]; exact rdl_flat _ _ _ (by intros; rfl) _ (by omega))) (Rq 4 rfl rfl (by kernel_rfl) (Sr _) (Qm rfl) (Rq 5 rfl rfl (by kernel_rfl) (Sr _) (Qm rfl) (Rq 6 rfl rfl (by kernel_rfl) (Sr _) (Qi _ (e := 175) (sz := 5) (by kernel_rfl) rfl rfl rfl (by omega)) (Rq 7 rfl rfl (by kernel_rfl) (Sr _) (QL [.int .i64 y.page, .int .i64 y.slot, .int .i64 y.beg, .int .i64 y.fin, strW y.data] (by kernel_rfl) rfl (by rw [show [Value.int .i64 y.page, .int .i64 y.slot, .int .i64 y.beg, .int .i64 y.fin, strW y.data] = vrC (Y[i]'(by omega)) by rw [hy]]; exact rdl_flat _ _ _ (by intros; rfl) _ (by omega))) (Rq 8 rfl rfl (by kernel_rfl) (Sr _) (YV (eqVer x y) rfl rfl) (Rd0 (by rfl) ?_))))))
   simp only [dS, dZ, dN]
   refine Ld (YQ rfl ((by simp [he])) (Tk (TR (Lm rfl rfl (Lq rfl (Qd rfl rfl (wr64 (by omega) (by omega))) (La rfl rfl (Ld ?_)))))))
   refine ⟨_, ?_, _, ⟨_, i + 1, ⟨by omega, by rw [List.take_succ_eq_append_getElem (by omega), List.take_succ_eq_append_getElem (by omega), htk, hx, hy, he]⟩, rfl, (updS rfl (updS rfl (updS rfl rfl))), rfl⟩, Sa⟩
   omega
  refine Tk (Ts (yH (Ts (zU 9 (by kernel_rfl) (nB rfl) (by kernel_rfl) (Rq 0 rfl rfl (by kernel_rfl) (Sr _) (Qm rfl) (Rq 1 rfl rfl (by kernel_rfl) (Sr _) (Qm rfl) (Rq 2 rfl rfl (by kernel_rfl) (Sr _) (Qi _ (e := 175) (sz := 5) (by kernel_rfl) rfl rfl rfl (by omega)) ?_)))))))
  refine Rq 3 rfl rfl (by kernel_rfl) (Sr _) (QL [.int .i64 x.page, .int .i64 x.slot, .int .i64 x.beg, .int .i64 x.fin, strW x.data] (by kernel_rfl) rfl (by rw [show [Value.int .i64 x.page, .int .i64 x.slot, .int .i64 x.beg, .int .i64 x.fin, strW x.data] = vrC (X[i]'(by omega)) by rw [hx]]; exact rdl_flat _ _ _ (by intros; rfl) _ (by omega))) (Rq 4 rfl rfl (by kernel_rfl) (Sr _) (Qm rfl) (Rq 5 rfl rfl (by kernel_rfl) (Sr _) (Qm rfl) (Rq 6 rfl rfl (by kernel_rfl) (Sr _) (Qi _ (e := 175) (sz := 5) (by kernel_rfl) rfl rfl rfl (by omega)) (Rq 7 rfl rfl (by kernel_rfl) (Sr _) (QL [.int .i64 y.page, .int .i64 y.slot, .int .i64 y.beg, .int .i64 y.fin, strW y.data] (by kernel_rfl) rfl (by rw [show [Value.int .i64 y.page, .int .i64 y.slot, .int .i64 y.beg, .int .i64 y.fin, strW y.data] = vrC (Y[i]'(by omega)) by rw [hy]]; exact rdl_flat _ _ _ (by intros; rfl) _ (by omega))) (Rq 8 rfl rfl (by kernel_rfl) (Sr _) (YV (eqVer x y) rfl rfl) (Rd0 (by rfl) ?_))))))
  simp only [dS, dZ, dN]
  refine Ld (T.condBT rfl ((by simp [he])) ?_)
  rw [show decide (X = Y) = false by rw [decide_eq_false_iff_not]; intro e; subst e; exact he (hx.symm.trans hy)]
  refine TS (La rfl rfl (Ld (T.ret ?_)))
  exact ⟨.inl rfl, _, _, res [_] rfl ⟨rvT rfl, trivial⟩, ⟨rfl, rfl⟩, Sa⟩
 have hXY : X = Y := by rw [List.take_of_length_le (by omega), List.take_of_length_le (by omega)] at htk; exact htk
 rw [decide_eq_true hXY]
 refine zB (TS (La rfl rfl (Ld (T.ret ?_))))
 exact ⟨.inl rfl, _, _, res [_] rfl ⟨rvT rfl, trivial⟩, ⟨rfl, rfl⟩, Sa⟩
theorem HrW.add {g : HR} {m : Nat} (k : HrW g m) (hm : m + 1 < 2 ^ 32) (t : Int) (d : List UInt8) : HrW (addR' g t d).1 (m + 1) := by
  have s := k.s
  rcases add_cases g t d with ⟨_, e⟩ | ⟨q, h1, h2, h3, h4, h5⟩
  · rw [e]; exact ⟨⟨by have := s.v; omega, by have := s.a; omega, by have := s.c; omega, by have := s.e; omega⟩, hm, k.pages, k.room, k.u, k.pg⟩
  · rw [h5]
    obtain ⟨a, b, _⟩ := roomy_some h3
    have hv := write_add_vs (h := g) (t := t) (d := d) (q := q)
    have hus := write_add_used (h := g) (t := t) (d := d) (q := q)
    have hrm := k.room
    have hu := k.u
    refine ⟨⟨by rw [hv]; have := s.v; simp; omega, by have := s.a; show g.act.length ≤ _; omega, ?_, by have := s.e; show (g.es ++ [_]).length ≤ _; simp; omega⟩, hm, k.pages, k.room, by rw [hus]; omega, fun p => ?_⟩
    · show (if (1 : Int) = 3 then g.cm ++ [(t, (0 : Int))] else g.cm).length ≤ _
      rw [if_neg (by decide)]; have := s.c; omega
    · have hp := k.pg p
      rw [hv]
      unfold usedP
      rw [pageV_append, usedV_append]
      by_cases e : q = p
      · subst e
        simp [pageV, usedV]
        unfold usedP usedV pageV at b
        omega
      · simp [pageV, usedV, e]
        unfold usedP usedV pageV at hp
        omega
theorem Hr.fits (B : Base) (q : HrQ) (h : HR) (m : Nat) (k : HrK h m) (ends : Int) (he : -(2 ^ 63) ≤ ends ∧ ends < 2 ^ 63) (ga : Nat) (x y : Int) (hm : m < 2 ^ 30) : Fn Tryz.prog B 79 #[hrV q h, .int .i64 ends, .slice (some ⟨ga, 0, none⟩) 2 2] (hrL q h ++ [blk ga [zV x, zV y] 3]) (fun u l => u = .bool (fitsR h ends [x, y]) ∧ l = hrL q h) := by
 have hrm := k.room
 obtain ⟨hu0, hu1⟩ := k.used
 have hl0 := k.r.last0
 have hlk := k.last
 simp only [hrL, List.cons_append, List.nil_append]
 unfold fitsR
 refine Fn.enter3 71 Tryz.func79 rfl rfl (nB rfl) (fun F => ?_)
 try simp only [cA, nA]
 refine TS ?_
 refine Le rfl (zL [_, _, _, _, _, _, _, _] rfl rfl ?_)
 intro g3
 refine La rfl rfl (Ld (Ts (TS (Lm rfl rfl (Lq rfl (yM rfl rfl) (Lm rfl rfl ?_))))))
 refine zZ (t := 12) rfl (fun h1 => ?_) (fun h1 => ?_)
 ·
  try replace h1 := of_decide_eq_true h1
  rw [if_pos (.inl h1)]
  refine Ls rfl (Ls rfl (Ls rfl (Ls rfl (Lq rfl (Qp rfl rfl) (Ld (zF rfl (Ts ?_)))))))
  refine TR (La rfl rfl (Ld (T.ret ?_)))
  exact ⟨.inl rfl, _, _, res [_] rfl ⟨rvT rfl, trivial⟩, ⟨rfl, rfl⟩, Sa⟩
 try replace h1 := of_decide_eq_false h1
 refine Lm rfl rfl (Lq rfl (Qf (off := 1) (by kernel_rfl) rfl) (Lq rfl (Ql (by kernel_rfl) rfl rfl) (Lq rfl (yZ rfl rfl) (Lq rfl (Qp rfl rfl) (Ld ?_)))))
 refine yN rfl (fun h2 => ?_) (fun h2 => ?_)
 ·
  rw [if_pos (.inr h2)]
  refine TS (La rfl rfl (Ld (T.ret ?_)))
  exact ⟨.inl rfl, _, _, res [_] rfl ⟨rvT rfl, trivial⟩, ⟨rfl, rfl⟩, Sa⟩
 rw [if_neg (by omega)]
 refine Tk (TS (Lq rfl (QL [_, _, _, _, _, _, _, _] (by kernel_rfl) rfl ⟨rfl, rfl, rfl, rfl, rfl, rfl, rfl, rfl, trivial⟩) ?_))
 refine Le rfl (Ec (Hr.begin B q h m k.s k.m (by omega)) Tryz.func74 rfl rfl rfl ?_)
 rintro _ _ ⟨q1, rfl, rfl⟩
 try simp only [cA, nA]
 refine Lm rfl rfl (Lq rfl (Qx rfl rfl) (Lq rfl (Qx rfl rfl) ?_))
 refine L0 rfl (Es [_, _, _, _, _, _, _, _] (by kernel_rfl) rfl rfl rfl rfl (by simp) ?_)
 try simp only [splice, lC, lN, dS, cA, tS, tZ, dZ, nA, aN]
 refine La rfl rfl (Ld (TS (Lq rfl (QL [_, _, _, _, _, _, _, _] (by kernel_rfl) rfl ⟨rfl, rfl, rfl, rfl, rfl, rfl, rfl, rfl, trivial⟩) ?_)))
 have hs1 : HrS (beginR h) (m + 1) := ⟨by have := k.s.v; show h.vs.length ≤ _; omega, by have := k.s.a; show (h.act ++ [h.last + 1]).length ≤ _; simp; omega, by have := k.s.c; show h.cm.length ≤ _; omega, by have := k.s.e; show h.es.length ≤ _; omega⟩
 have hbu : (beginR h).used = h.used := rfl
 refine Le rfl (Ec (Hr.copied B q1 (beginR h) (m + 1) hs1 (by omega)) Tryz.func92 rfl rfl rfl ?_)
 rintro _ _ ⟨q2, rfl, rfl⟩
 try simp only [cA, nA]
 refine L0 rfl (Es [_, _, _, _, _, _, _, _] (by kernel_rfl) rfl rfl rfl rfl (by simp) ?_)
 try simp only [splice, lC, lN, dS, cA, tS, tZ, dZ, nA, aN]
 refine Ld (TS (Lq rfl (Qf (off := 2) (by kernel_rfl) rfl) (Lq rfl (Ql (by kernel_rfl) rfl rfl) (Lm rfl rfl (Lq rfl (YG rfl rfl (wr64 (by omega) (by omega))) (Lq rfl (Qd rfl rfl (wr64 (by omega) (by omega))) ?_))))))
 refine Lq rfl (Qd rfl rfl (wr64 (by omega) (by omega))) (Lq rfl (Qf (off := 2) (by kernel_rfl) rfl) ?_)
 refine L0 rfl (E1 (by kernel_rfl) rfl rfl rfl (by first | (simp; done) | (simp; omega)) ?_)
 try simp only [List.set_cons_zero, List.set_cons_succ]
 refine Ld (Ts (TS (La rfl rfl (Ld (yH ?_)))))
 rw [hbu]
 obtain ⟨g0, hg0⟩ : ∃ g0 : HR, ({ beginR h with used := h.used + (20 * ends + 25) } : HR) = g0 := ⟨_, rfl⟩
 have hw0 : HrW g0 (m + 1) := by rw [← hg0]; exact ⟨⟨hs1.v, hs1.a, hs1.c, hs1.e⟩, by omega, k.pages, k.room, by show 0 ≤ h.used + (20 * ends + 25) ∧ h.used + (20 * ends + 25) < _; omega, k.r.ok.room⟩
 refine T.conv (l' := blk g3 (hrC q2 g0) 71 :: hrL q2 g0 ++ (blk ga [zV x, zV y] 3 :: hrL q h ++ F)) (fun w ho => by subst hg0; exact ho.map Sa) ?_
 rw [hg0]
 refine zG (fun mz fz lz => ∃ (f0 : Fr) (i : Nat) (g : HR) (q2 : HrQ), (i ≤ 2 ∧ HrW g (m + 1 + i) ∧ fitsA g0 (h.last + 1) [x, y] = fitsA g (h.last + 1) ([x, y].drop i)) ∧ mz = 2 - i ∧ fz = (upd (upd (upd (upd f0 2 (.slice (some ⟨ga, 0, none⟩) 2 2)) 3 (.pointer (some ⟨g3, 0, none⟩))) 7 (.int .i64 (h.last + 1))) 8 (.int .i64 i)) ∧ lz = blk g3 (hrC q2 g) 71 :: hrL q2 g ++ (blk ga [zV x, zV y] 3 :: hrL q h ++ F)) ?_ ?_
 · refine ⟨_, _, ⟨_, 0, g0, q2, ⟨Nat.zero_le _, hw0, rfl⟩, rfl, (updS rfl (updS rfl (updS rfl (updS rfl rfl)))), rfl⟩, Sa⟩
 rintro mz fz lz ⟨f0, i, g, q2, ⟨hi, hw, hfa⟩, hmz, rfl, rfl⟩
 subst mz
 try simp only [cA, nA]
 refine Ts (TS (Lm rfl rfl (Lm rfl rfl (Lq rfl (yI (e := 3) (sz := 1) (by kernel_rfl) rfl) (Lq rfl (yM rfl rfl) (Ld ?_))))))
 refine yN rfl (fun hlt => ?_) (fun hlt => ?_)
 ·
  obtain ⟨z, hz⟩ : ∃ z, [x, y][i]'(by simp; omega) = z := ⟨_, rfl⟩
  have hzc : ([zV x, zV y] : List Value)[0 + i * 1]? = some (zV z) := by rw [show ([zV x, zV y] : List Value) = [x, y].map zV from rfl, map_at _ _ _ (by simp; omega), hz]
  have hdr : [x, y].drop i = z :: [x, y].drop (i + 1) := by rw [List.drop_eq_getElem_cons (by simp; omega), hz]
  rw [hdr] at hfa
  refine Tk (Ts (yH (Ts (TS (Lm rfl rfl (Lm rfl rfl ?_))))))
  refine Lq rfl (Qi _ (e := 3) (sz := 1) (by kernel_rfl) rfl rfl rfl (by omega)) (Lq rfl (Ql (v := zV z) (by kernel_rfl) rfl hzc) (Lq rfl (yM rfl rfl) (Lm rfl rfl ?_)))
  refine zZ (t := 43) rfl (fun z1 => ?_) (fun z1 => ?_)
  ·
   try replace z1 := of_decide_eq_true z1
   rw [hfa, show fitsA g (h.last + 1) (z :: [x, y].drop (i + 1)) = (g, false) by unfold fitsA; rw [if_pos (.inl z1)]]
   refine Ls rfl (Ls rfl (Ls rfl (Ls rfl (Ls rfl (Lq rfl (Qp rfl rfl) (Ld (zF rfl ?_)))))))
   refine TS (La rfl rfl (Ld (T.ret ?_)))
   exact ⟨.inl rfl, _, _, res [_] rfl ⟨rvT rfl, trivial⟩, ⟨rfl, rfl⟩, Sa⟩
  try replace z1 := of_decide_eq_false z1
  refine Lm rfl rfl (Lm rfl rfl (Lq rfl (Qi _ (e := 3) (sz := 1) (by kernel_rfl) rfl rfl rfl (by omega)) (Lq rfl (Ql (v := zV z) (by kernel_rfl) rfl hzc) (Lq rfl (yZ rfl rfl) (Lq rfl (Qp rfl rfl) (Ld ?_))))))
  refine yN rfl (fun z2 => ?_) (fun z2 => ?_)
  ·
   rw [hfa, show fitsA g (h.last + 1) (z :: [x, y].drop (i + 1)) = (g, false) by unfold fitsA; rw [if_pos (.inr z2)]]
   refine TS (La rfl rfl (Ld (T.ret ?_)))
   exact ⟨.inl rfl, _, _, res [_] rfl ⟨rvT rfl, trivial⟩, ⟨rfl, rfl⟩, Sa⟩
  obtain ⟨n, rfl⟩ : ∃ n : Nat, z = n := ⟨z.toNat, by omega⟩
  have hfb : fitsA g (h.last + 1) ((n : Int) :: [x, y].drop (i + 1)) = if (addR' g (h.last + 1) (List.replicate n 0)).2.2.2 ≠ 0 then ((addR' g (h.last + 1) (List.replicate n 0)).1, false) else fitsA (addR' g (h.last + 1) (List.replicate n 0)).1 (h.last + 1) ([x, y].drop (i + 1)) := by
   conv => lhs; unfold fitsA
   rw [if_neg (by omega), Int.toNat_natCast]
  refine Tk (TS (La rfl rfl (Ld (Ts (zW 15 (some g3) (by kernel_rfl) (nB rfl) (by kernel_rfl) (Rq 1 rfl rfl (by kernel_rfl) Sa (Qm rfl) ?_))))))
  refine Rq 2 rfl rfl (by kernel_rfl) Sa (Qm rfl) (Rq 3 rfl rfl (by kernel_rfl) Sa (Qm rfl) (Rq 4 rfl rfl (by kernel_rfl) Sa (Qi _ (e := 3) (sz := 1) (by kernel_rfl) rfl rfl rfl (by omega)) (Rq 5 rfl rfl (by kernel_rfl) Sa (Ql (v := zV n) (by kernel_rfl) rfl hzc) ?_)))
  refine YC [0, 6] (by kernel_rfl) (List.forall_mem_cons.2 ⟨?_, List.forall_mem_cons.2 ⟨?_, List.forall_mem_nil _⟩⟩)
  ·
   refine z6 rfl rfl (YL (QL [_, _, _, _, _, _, _, _] (by kernel_rfl) rfl ⟨rfl, rfl, rfl, rfl, rfl, rfl, rfl, rfl, trivial⟩) ?_)
   refine ⟨Sa, ?_⟩
   refine yK 6 (by kernel_rfl) ?_
   refine z6 rfl rfl (YK n (.int .u8 0) 1 Cd.elemB (by kernel_rfl) rfl rfl rfl rfl (by omega) (by unfold maxLen; omega) ?_)
   intro gz
   rw [made_bytes n]
   refine ⟨Sa, ?_⟩
   refine yK 7 (by kernel_rfl) ?_
   first | refine z6 rfl rfl (YL (Z2 (List.replicate n 0) (by kernel_rfl) (by kernel_rfl) rfl (fun _ ho => ho.reads_row (by simp))) ?_)
   refine ⟨Sa, ?_⟩
   refine yK 8 (by kernel_rfl) ?_
   refine z6 rfl rfl (Ec (Hr.add B q2 g (m + 1 + i) hw (h.last + 1) (List.replicate n 0) (by simp; omega)) Tryz.func75 rfl rfl rfl ?_)
   rintro _ _ ⟨q3, rfl, rfl⟩
   try simp only [cA, nA]
   refine ⟨Sa, ?_⟩
   refine Rq 9 rfl rfl (by kernel_rfl) Sa (Qm rfl) (Rq 10 rfl rfl (by kernel_rfl) Sa (Qx rfl rfl) (Rq 11 rfl rfl (by kernel_rfl) Sa (Qx rfl rfl) (Rq 12 rfl rfl (by kernel_rfl) Sa (Qx rfl rfl) (Rq 13 rfl rfl (by kernel_rfl) Sa (Qx rfl rfl) (yK 14 (by kernel_rfl) ?_)))))
   refine YH rfl rfl (Es [_, _, _, _, _, _, _, _] (by kernel_rfl) rfl rfl rfl rfl (by simp) ?_)
   try simp only [splice, lC, lN, dS, cA, tS, tZ, dZ, nA, aN]
   refine ⟨Sa, ?_⟩
   refine Rd0 (by rfl) ?_
   simp only [dS, dZ, dN]
   refine La rfl rfl (Ld (TS (Lm rfl rfl (Lq rfl (yW rfl rfl) (Ld ?_)))))
   refine yN rfl (fun hbad => ?_) (fun hbad => ?_)
   ·
    rw [hfa, hfb, if_pos hbad]
    refine TS (La rfl rfl (Ld (T.ret ?_)))
    exact ⟨.inl rfl, _, _, res [_] rfl ⟨rvT rfl, trivial⟩, ⟨rfl, rfl⟩, Sa⟩
   rw [if_neg hbad] at hfb
   refine Tk (TR (Lm rfl rfl (Lq rfl (Qd rfl rfl (wr64 (by omega) (by omega))) (La rfl rfl (Ld ?_)))))
   refine ⟨_, ?_, _, ⟨_, i + 1, (addR' g (h.last + 1) (List.replicate n 0)).1, q3, ⟨by omega, hw.add (by omega) _ _, hfa.trans hfb⟩, rfl, (updS rfl (updS rfl (updS rfl (updS rfl rfl)))), rfl⟩, Sa⟩
   omega
  refine z6 rfl rfl (YK n (.int .u8 0) 1 Cd.elemB (by kernel_rfl) rfl rfl rfl rfl (by omega) (by unfold maxLen; omega) ?_)
  intro gz
  rw [made_bytes n]
  refine ⟨Sa, ?_⟩
  refine YC [0, 7] (by kernel_rfl) (List.forall_mem_cons.2 ⟨?_, List.forall_mem_cons.2 ⟨?_, List.forall_mem_nil _⟩⟩)
  ·
   refine z6 rfl rfl (YL (QL [_, _, _, _, _, _, _, _] (by kernel_rfl) rfl ⟨rfl, rfl, rfl, rfl, rfl, rfl, rfl, rfl, trivial⟩) ?_)
   refine ⟨Sa, ?_⟩
   refine yK 7 (by kernel_rfl) ?_
   first | refine z6 rfl rfl (YL (Z2 (List.replicate n 0) (by kernel_rfl) (by kernel_rfl) rfl (fun _ ho => ho.reads_row (by simp))) ?_)
   refine ⟨Sa, ?_⟩
   refine yK 8 (by kernel_rfl) ?_
   refine z6 rfl rfl (Ec (Hr.add B q2 g (m + 1 + i) hw (h.last + 1) (List.replicate n 0) (by simp; omega)) Tryz.func75 rfl rfl rfl ?_)
   rintro _ _ ⟨q3, rfl, rfl⟩
   try simp only [cA, nA]
   refine ⟨Sa, ?_⟩
   refine Rq 9 rfl rfl (by kernel_rfl) Sa (Qm rfl) (Rq 10 rfl rfl (by kernel_rfl) Sa (Qx rfl rfl) (Rq 11 rfl rfl (by kernel_rfl) Sa (Qx rfl rfl) (Rq 12 rfl rfl (by kernel_rfl) Sa (Qx rfl rfl) (Rq 13 rfl rfl (by kernel_rfl) Sa (Qx rfl rfl) (yK 14 (by kernel_rfl) ?_)))))
   refine YH rfl rfl (Es [_, _, _, _, _, _, _, _] (by kernel_rfl) rfl rfl rfl rfl (by simp) ?_)
   try simp only [splice, lC, lN, dS, cA, tS, tZ, dZ, nA, aN]
   refine ⟨Sa, ?_⟩
   refine Rd0 (by rfl) ?_
   simp only [dS, dZ, dN]
   refine La rfl rfl (Ld (TS (Lm rfl rfl (Lq rfl (yW rfl rfl) (Ld ?_)))))
   refine yN rfl (fun hbad => ?_) (fun hbad => ?_)
   ·
    rw [hfa, hfb, if_pos hbad]
    refine TS (La rfl rfl (Ld (T.ret ?_)))
    exact ⟨.inl rfl, _, _, res [_] rfl ⟨rvT rfl, trivial⟩, ⟨rfl, rfl⟩, Sa⟩
   rw [if_neg hbad] at hfb
   refine Tk (TR (Lm rfl rfl (Lq rfl (Qd rfl rfl (wr64 (by omega) (by omega))) (La rfl rfl (Ld ?_)))))
   refine ⟨_, ?_, _, ⟨_, i + 1, (addR' g (h.last + 1) (List.replicate n 0)).1, q3, ⟨by omega, hw.add (by omega) _ _, hfa.trans hfb⟩, rfl, (updS rfl (updS rfl (updS rfl (updS rfl rfl)))), rfl⟩, Sa⟩
   omega
  first | refine z6 rfl rfl (YL (Z2 (List.replicate n 0) (by kernel_rfl) (by kernel_rfl) rfl (fun _ ho => ho.reads_row (by simp))) ?_)
  refine ⟨Sa, ?_⟩
  refine yK 0 (by kernel_rfl) ?_
  refine z6 rfl rfl (YL (QL [_, _, _, _, _, _, _, _] (by kernel_rfl) rfl ⟨rfl, rfl, rfl, rfl, rfl, rfl, rfl, rfl, trivial⟩) ?_)
  refine ⟨Sa, ?_⟩
  refine yK 8 (by kernel_rfl) ?_
  refine z6 rfl rfl (Ec (Hr.add B q2 g (m + 1 + i) hw (h.last + 1) (List.replicate n 0) (by simp; omega)) Tryz.func75 rfl rfl rfl ?_)
  rintro _ _ ⟨q3, rfl, rfl⟩
  try simp only [cA, nA]
  refine ⟨Sa, ?_⟩
  refine Rq 9 rfl rfl (by kernel_rfl) Sa (Qm rfl) (Rq 10 rfl rfl (by kernel_rfl) Sa (Qx rfl rfl) (Rq 11 rfl rfl (by kernel_rfl) Sa (Qx rfl rfl) (Rq 12 rfl rfl (by kernel_rfl) Sa (Qx rfl rfl) (Rq 13 rfl rfl (by kernel_rfl) Sa (Qx rfl rfl) (yK 14 (by kernel_rfl) ?_)))))
  refine YH rfl rfl (Es [_, _, _, _, _, _, _, _] (by kernel_rfl) rfl rfl rfl rfl (by simp) ?_)
  try simp only [splice, lC, lN, dS, cA, tS, tZ, dZ, nA, aN]
  refine ⟨Sa, ?_⟩
  refine Rd0 (by rfl) ?_
  simp only [dS, dZ, dN]
  refine La rfl rfl (Ld (TS (Lm rfl rfl (Lq rfl (yW rfl rfl) (Ld ?_)))))
  refine yN rfl (fun hbad => ?_) (fun hbad => ?_)
  ·
   rw [hfa, hfb, if_pos hbad]
   refine TS (La rfl rfl (Ld (T.ret ?_)))
   exact ⟨.inl rfl, _, _, res [_] rfl ⟨rvT rfl, trivial⟩, ⟨rfl, rfl⟩, Sa⟩
  rw [if_neg hbad] at hfb
  refine Tk (TR (Lm rfl rfl (Lq rfl (Qd rfl rfl (wr64 (by omega) (by omega))) (La rfl rfl (Ld ?_)))))
  refine ⟨_, ?_, _, ⟨_, i + 1, (addR' g (h.last + 1) (List.replicate n 0)).1, q3, ⟨by omega, hw.add (by omega) _ _, hfa.trans hfb⟩, rfl, (updS rfl (updS rfl (updS rfl (updS rfl rfl)))), rfl⟩, Sa⟩
  omega
 obtain rfl : i = 2 := by omega
 rw [hfa, show fitsA g (h.last + 1) ([x, y].drop 2) = (g, true) from rfl]
 refine zB (TS (Lq rfl (Qf (off := 2) (by kernel_rfl) rfl) (Lq rfl (Ql (by kernel_rfl) rfl rfl) (Lq rfl (Qf (off := 1) (by kernel_rfl) rfl) (Lq rfl (Ql (by kernel_rfl) rfl rfl) (Lq rfl (YF rfl rfl) ?_))))))
 refine La rfl rfl (Ld (T.ret ?_))
 exact ⟨.inl rfl, _, _, res [_] rfl ⟨rvT rfl, trivial⟩, ⟨rfl, rfl⟩, Sa⟩
open Go.RowKit
theorem Hp.versions (B : Base) (L : List VerM) (Y : List Ver) (p1 p2 : Option Addr) (c1 c2 : Nat) (hL : ∀ x ∈ L, x.Ok) (hb : L.length < 2 ^ 32) (hdl : ∀ x ∈ L, x.v.data.length < 2 ^ 32) :
  Fn Tryz.prog B 28 #[.slice p1 L.length c1, .slice p2 Y.length c2] [vmR p1 L.length c1 L, vmsA L, verR p2 Y.length c2 Y] (fun u l => u = .bool (decide (L.map (·.v) = Y)) ∧ l = []) := by
 refine Fn.enter2 35 Tryz.func28 rfl rfl (nB rfl) (fun F => ?_)
 try simp only [cA, nA]
 refine T.own fun w ho => ?_
 have hp1 : 0 < L.length → ∃ g, p1 = some ⟨g, 0, none⟩ := (ho.slice_at (p := p1) (m := L.length) (c := c1)).2.1
 have hvo : VmsOk L := (ho.map Sa : Own B w [vmsA L]).vmsOk hL
 clear ho
 refine TS (La rfl rfl (Ld (TS (La rfl rfl (Ld ?_)))))
 refine Ts (TS (Lm rfl rfl (Lq rfl (yI (e := 45) (sz := 5) (by kernel_rfl) rfl) (Lm rfl rfl (Ld (yH ?_))))))
 refine T.conv (l' := verR none 0 0 [] :: _) (fun w ho => ho.row_nil _ _) ?_
 refine zG (fun mz fz lz => ∃ (f0 : Fr) (i : Nat) (out : List Ver) (po : Option Addr) (co n : Nat), (i ≤ L.length ∧ out = (L.take i).map (·.v) ∧ n = out.length ∧ n = i) ∧ mz = L.length - i ∧ fz = (upd (upd (upd (upd (upd f0 1 (.slice p2 Y.length c2)) 5 (.slice po n co)) 8 (.slice p1 L.length c1)) 9 (.int .i64 L.length)) 10 (.int .i64 i)) ∧ lz = verR po n co out :: vmR p1 L.length c1 L :: vmsA L :: verR p2 Y.length c2 Y :: F) ?_ ?_
 · refine ⟨_, _, ⟨_, 0, [], none, 0, 0, ⟨Nat.zero_le _, rfl, rfl, rfl⟩, rfl, (updS rfl (updS rfl (updS rfl (updS rfl (updS rfl rfl))))), rfl⟩, Sa⟩
 rintro mz fz lz ⟨f0, i, out, po, co, n, ⟨hi, ho, hn, hni⟩, hmz, rfl, rfl⟩
 subst mz
 refine TS (Lq rfl (yM rfl rfl) (Ld (Ts ?_)))
 refine yN rfl (fun hlt => ?_) (fun hlt => ?_)
 ·
  obtain ⟨g1, rfl⟩ := hp1 (by omega)
  obtain ⟨x, hx⟩ : ∃ x, L[i]? = some x := ⟨_, List.getElem?_eq_getElem (by omega)⟩
  have hil := (List.getElem?_eq_some_iff.1 hx).1
  have hrd := RdV.ver (B := B) hvo hx
  have hxl := hdl x (List.mem_of_getElem? hx)
  refine Tk (Ts (yH (TS (Lq rfl (Qi _ (e := 45) (sz := 5) (by kernel_rfl) rfl rfl rfl (by omega)) ?_))))
  refine Lq rfl (QL [.int .i64 x.v.page, .int .i64 x.v.slot, .int .i64 x.v.beg, .int .i64 x.v.fin, .slice (offA x.p x.c 16 1) x.v.data.length (x.c - 16)] (by kernel_rfl) rfl (by rw [show [Value.int .i64 x.v.page, .int .i64 x.v.slot, .int .i64 x.v.beg, .int .i64 x.v.fin, .slice (offA x.p x.c 16 1) x.v.data.length (x.c - 16)] = vmC (L[i]'hil) by rw [(List.getElem?_eq_some_iff.1 hx).2]]; exact rdl_flat _ _ _ (by intros; rfl) _ (by omega))) ?_
  refine Le rfl (El [.int .i64 0, .int .i64 0, .int .i64 0, .int .i64 0, .slice none 0 0] (by unfold zeroB; kernel_rfl) ?_)
  intro g7
  refine L0 rfl (Es [_, _, _, _, _] (by kernel_rfl) rfl rfl rfl rfl (by simp) ?_)
  try simp only [splice, lC, lN, dS, cA, tS, tZ, dZ, nA, aN]
  refine Ld (TR (Lm rfl rfl (Lq rfl (Q0 (by kernel_rfl) rfl) (Lq rfl (Q0 (by kernel_rfl) rfl) (Lq rfl (Ql (by kernel_rfl) rfl rfl) (Lq rfl (Q0 (by kernel_rfl) rfl) (Lq rfl (Qf (off := 1) (by kernel_rfl) rfl) ?_)))))))
  refine Lq rfl (Ql (by kernel_rfl) rfl rfl) (Lq rfl (Qf (off := 2) (by kernel_rfl) rfl) (Lq rfl (Ql (by kernel_rfl) rfl rfl) (Lq rfl (Qf (off := 3) (by kernel_rfl) rfl) (Lq rfl (Ql (by kernel_rfl) rfl rfl) (Lq rfl (Qf (off := 4) (by kernel_rfl) rfl) (Lq rfl (Ql (by kernel_rfl) rfl rfl) (Lq rfl (Z2 x.v.data (by kernel_rfl) (by kernel_rfl) rfl (fun w ho => hrd.reads w (ho.map Sa))) ?_)))))))
  refine Lq rfl (z8 [(0, 1), (1, 1), (2, 1), (3, 1), (4, 1)] [.int .i64 0, .int .i64 0, .int .i64 0, .int .i64 0, .string .empty] [_, _, _, _, _] [(0, _), (1, _), (2, _), (3, _), (4, _)] (by kernel_rfl) (by unfold zeroB; kernel_rfl) rfl rfl) ?_
  refine Le rfl (zK [_, _, _, _, _] (e := 175) (sz := 5) (by kernel_rfl) ⟨.agg #[.int .i64 0, .int .i64 0, .int .i64 0, .int .i64 0, .string .empty], by kernel_rfl, rfl⟩ rfl rfl rfl (by omega) (by omega) ?_)
  intro g29
  refine Le rfl (Ea Hr.elemV rfl rfl (SrcOf.blk (by kernel_rfl) rfl (by simp [Value.oneCell'])) (by unfold maxLen; omega) (by omega) ?_)
  rintro p3 c3 hp3
  try simp only [cA, nA]
  rw [flat_snoc vrC out x.v]
  refine La rfl rfl (Ld (TR (Lq rfl (Qd rfl rfl (wr64 (by omega) (by omega))) (Lm rfl rfl (Ld ?_)))))
  refine ⟨_, ?_, _, ⟨_, i + 1, out ++ [x.v], p3, c3, n + 1, ⟨by omega, by rw [List.take_succ_eq_append_getElem hil, List.map_append, ← ho, (List.getElem?_eq_some_iff.1 hx).2]; rfl, by simp [hn], by omega⟩, rfl, (updS rfl (updS rfl (updS rfl (updS rfl (updS rfl rfl))))), rfl⟩, Sa⟩
  omega
 rw [List.take_of_length_le (by omega)] at ho
 subst hn
 refine zB (TS (Lm rfl rfl (Lm rfl rfl ?_)))
 refine Le rfl (Ec (Hr.same B out Y po p2 co c2 (by omega)) Tryz.func80 rfl rfl rfl ?_)
 rintro _ _ ⟨rfl, rfl⟩
 try simp only [cA, nA]
 rw [ho]
 refine La rfl rfl (Ld (T.ret ?_))
 exact ⟨.inl rfl, _, _, res [_] rfl ⟨rvT rfl, trivial⟩, ⟨rfl, rfl⟩, Sa⟩
theorem Hp.commitsLaw (B : Base) (g b logs count n K : Nat) (q : HrQ) (h : HR) (hl : h.cm.length < 2 ^ 32) : Fn Tryz.prog B 30 #[pV g, hrV q h] (hpA g b logs count n K h :: hrL q h) (fun u l => u = .bool true ∧ l = hpA g b logs count n K h :: hrL q h) := by
 obtain ⟨pv, cv, pa, ca, pc, cc, pe, ce⟩ := q
 dsimp only [hrV, hrL]
 refine Fn.enter2 46 Tryz.func30 rfl rfl (nB rfl) (fun F => ?_)
 try simp only [cA, nA]
 refine T.own fun w ho => ?_
 have hp : 0 < h.cm.length → ∃ g, pc = some ⟨g, 0, none⟩ := ((ho.map Sa : Own B w [c8R pc h.cm.length cc h.cm]).slice_at (p := pc) (m := h.cm.length) (c := cc)).2.1
 clear ho
 refine TS ?_
 refine Le rfl (zL [_, _, _, _, _, _, _, _] rfl rfl ?_)
 intro g3
 refine La rfl rfl (Ld (TS (Lm rfl rfl (Lq rfl (Qn rfl) (Lq rfl (Q0 (by kernel_rfl) rfl) ?_)))))
 refine Le rfl (Ec (Hp.commits B g b logs count n K h hl) Tryz.func21 rfl rfl rfl ?_)
 rintro _ _ ⟨p2, c2, rfl, rfl⟩
 try simp only [cA, nA]
 refine LW.own fun w ho => ?_
 have hp2 : 0 < h.cm.length → ∃ g, p2 = some ⟨g, 0, none⟩ := ((ho.map Sa : Own B w [cmR p2 h.cm.length c2 h.cm]).slice_at (p := p2) (m := h.cm.length) (c := c2)).2.1
 clear ho
 refine La rfl rfl (Ld (Ts (TS (Lm rfl rfl (Lq rfl (yI (e := 48) (sz := 2) (by kernel_rfl) rfl) (Lq rfl (Qf (off := 5) (by kernel_rfl) rfl) ?_))))))
 refine Lq rfl (Ql (by kernel_rfl) rfl rfl) (Lq rfl (yI (e := 179) (sz := 2) (by kernel_rfl) rfl) (Lq rfl (yW rfl rfl) (Ld (yL rfl (by omega) (Tk (Ts (Ts ?_)))))))
 refine TR (Lm rfl rfl (Lq rfl (yI (e := 48) (sz := 2) (by kernel_rfl) rfl) (Lm rfl rfl (Ld (yH ?_)))))
 refine zG (fun mz fz lz => ∃ (f0 : Fr) (i : Nat), (i ≤ h.cm.length) ∧ mz = h.cm.length - i ∧ fz = (upd (upd (upd (upd f0 3 (.pointer (some ⟨g3, 0, none⟩))) 18 (.slice p2 h.cm.length c2)) 19 (.int .i64 h.cm.length)) 20 (.int .i64 i)) ∧ lz = cmR p2 h.cm.length c2 h.cm :: hpA g b logs count n K h :: blk g3 (hrC ⟨pv, cv, pa, ca, pc, cc, pe, ce⟩ h) 71 :: hrL ⟨pv, cv, pa, ca, pc, cc, pe, ce⟩ h ++ F) ?_ ?_
 · refine ⟨_, _, ⟨_, 0, Nat.zero_le _, rfl, (updS rfl (updS rfl (updS rfl (updS rfl rfl)))), rfl⟩, Sa⟩
 rintro mz fz lz ⟨f0, i, hi, hmz, rfl, rfl⟩
 subst mz
 try simp only [cA, nA]
 refine TS (Lq rfl (yM rfl rfl) (Ld (Ts ?_)))
 refine yN rfl (fun hlt => ?_) (fun hlt => ?_)
 ·
  obtain ⟨g1, rfl⟩ := hp (by omega)
  obtain ⟨g2, rfl⟩ := hp2 (by omega)
  obtain ⟨x, hx⟩ : ∃ x, h.cm[i]'(by omega) = x := ⟨_, rfl⟩
  have hx2 : h.cm[i]? = some x := by rw [List.getElem?_eq_getElem (by omega), hx]
  refine Tk (Ts (yH (TS (Lm rfl rfl (Lq rfl (Qi _ (e := 48) (sz := 2) (by kernel_rfl) rfl rfl rfl (by omega)) (Lq rfl (QL [.int .i64 x.1, .int .i64 x.2] (by kernel_rfl) rfl (by rw [show [Value.int .i64 x.1, .int .i64 x.2] = stC (h.cm[i]'(by omega)) by rw [hx]]; exact rdl_flat _ _ _ (by intros; rfl) _ (by omega))) ?_))))))
  refine Le rfl (El [.int .i64 0, .int .i64 0] (by unfold zeroB; kernel_rfl) ?_)
  intro g7
  refine La rfl rfl ?_
  refine L0 rfl (Es [_, _] (by kernel_rfl) rfl rfl rfl rfl (by simp) ?_)
  try simp only [splice, lC, lN, dS, cA, tS, tZ, dZ, nA, aN]
  refine Ld (Ts (zU 20 (by kernel_rfl) (nB rfl) (by kernel_rfl) (Rq 0 rfl rfl (by kernel_rfl) (Sr _) (Q0 (by kernel_rfl) rfl) (Rq 1 rfl rfl (by kernel_rfl) (Sr _) (Ql (by kernel_rfl) rfl rfl) (Rq 2 rfl rfl (by kernel_rfl) (Sr _) (Qf (off := 5) (by kernel_rfl) rfl) (Rq 3 rfl rfl (by kernel_rfl) (Sr _) (Ql (by kernel_rfl) rfl rfl) (Rq 4 rfl rfl (by kernel_rfl) (Sr _) (Qm rfl) ?_)))))))
  refine Rq 5 rfl rfl (by kernel_rfl) (Sr _) (Qi _ (e := 179) (sz := 2) (by kernel_rfl) rfl rfl rfl (by omega)) (Rq 6 rfl rfl (by kernel_rfl) (Sr _) (Q0 (by kernel_rfl) rfl) (Rq 7 rfl rfl (by kernel_rfl) (Sr _) (Ql (v := .int .i64 x.1) (by kernel_rfl) rfl (flat_cell0 stC 2 h.cm (fun _ _ => rfl) i (by omega) (by rw [hx]; rfl))) (Rq 8 rfl rfl (by kernel_rfl) (Sr _) (yW rfl rfl) (Rq 9 rfl rfl (by kernel_rfl) (Sr _) (Qm rfl) (ZD (t := 34) rfl (decide_eq_false (by omega)) (Rq 10 rfl rfl (by kernel_rfl) (Sr _) (Qf (off := 1) (by kernel_rfl) rfl) (Rq 11 rfl rfl (by kernel_rfl) (Sr _) (Ql (by kernel_rfl) rfl rfl) ?_)))))))
  refine Rq 12 rfl rfl (by kernel_rfl) (Sr _) (Qf (off := 5) (by kernel_rfl) rfl) (Rq 13 rfl rfl (by kernel_rfl) (Sr _) (Ql (by kernel_rfl) rfl rfl) (Rq 14 rfl rfl (by kernel_rfl) (Sr _) (Qm rfl) (Rq 15 rfl rfl (by kernel_rfl) (Sr _) (Qi _ (e := 179) (sz := 2) (by kernel_rfl) rfl rfl rfl (by omega)) (Rq 16 rfl rfl (by kernel_rfl) (Sr _) (Qf (off := 1) (by kernel_rfl) rfl) (Rq 17 rfl rfl (by kernel_rfl) (Sr _) (Ql (v := .int .i64 x.2) (by kernel_rfl) rfl (c8_at hx2)) (Rq 18 rfl rfl (by kernel_rfl) (Sr _) (yW rfl rfl) (Rq 19 rfl rfl (by kernel_rfl) (Sr _) (Qp rfl rfl) ?_)))))))
  refine Rd0 (by rfl) ?_
  simp only [dS, dZ, dN]
  refine Ld (yL rfl (by omega) (Tk (TR (Lq rfl (Qd rfl rfl (wr64 (by omega) (by omega))) (Lm rfl rfl (Ld ?_))))))
  refine ⟨_, ?_, _, ⟨_, i + 1, by omega, rfl, (updS rfl (updS rfl (updS rfl (updS rfl rfl)))), rfl⟩, Sa⟩
  omega
 refine zB (TS (La rfl rfl (Ld (T.ret ?_))))
 exact ⟨.inl rfl, _, _, res [_] rfl ⟨rvT rfl, trivial⟩, ⟨rfl, rfl⟩, Sa⟩
open Go.RowKit
def stepR (h : HR) (o : OpH) : HR := if o.kind = 0 then beginR h else if o.kind = 1 then (addR' h o.txn o.data).1 else if o.kind = 2 then (endR h o.txn o.page o.slot).1 else if o.kind = 3 then (commitR h o.txn o.stamp).1 else if o.kind = 4 then (abortR h o.txn).1 else h
structure PlayI (h : HR) (c rm m : Nat) : Prop where
 r : RInv h
 s : HrS h m
 pages : h.pages = c
 room : h.room = rm
 last : h.last ≤ m
theorem PlayI.k {h : HR} {c rm m : Nat} (p : PlayI h c rm m) (hm : m < 2 ^ 31) (hc : c ≤ 4096) (hr : rm < 2 ^ 30) : HrK h m := ⟨p.s, by omega, p.r, by rw [p.pages]; exact hc, by rw [p.room]; exact hr, by have := p.last; omega⟩
theorem HrS.mono {h : HR} {m m' : Nat} (s : HrS h m) (hm : m ≤ m') : HrS h m' := ⟨Nat.le_trans s.v hm, Nat.le_trans s.a hm, Nat.le_trans s.c hm, Nat.le_trans s.e hm⟩
theorem HrS.write {h : HR} {m : Nat} (s : HrS h m) (e : En) : HrS (writeR h e) (m + 1) := by
  refine ⟨?_, Nat.le_trans s.a (Nat.le_succ _), ?_, ?_⟩
  · show (if e.kind = 1 then _ else if e.kind = 2 then _ else _ : List Ver).length ≤ _
    have := s.v
    split
    · simp; omega
    · split
      · split
        · simp; omega
        · omega
      · omega
  · show (if e.kind = 3 then _ else _ : List (Int × Int)).length ≤ _
    have := s.c
    split
    · simp; omega
    · omega
  · have := s.e
    show (h.es ++ [e]).length ≤ _
    simp; omega
theorem cm_cases (h : HR) (t s : Int) : (commitR h t s).1 = h ∨ (commitR h t s).1 = writeR (withoutR h t) (cmE t s) := by
  unfold commitR
  split
  · split
    · exact .inl rfl
    · split
      · exact .inl rfl
      · exact .inr rfl
  · exact .inl rfl
theorem ab_cases (h : HR) (t : Int) : (abortR h t).1 = h ∨ (abortR h t).1 = withoutR h t := by
 unfold abortR
 split
 · exact .inr rfl
 · exact .inl rfl
theorem PlayI.step {h : HR} {c rm m : Nat} (p : PlayI h c rm m) (hm : m < 2 ^ 31) (hc : c ≤ 4096) (o : OpH) : PlayI (stepR h o) c rm (m + 1) := by
  have hp : h.pages ≤ 4096 := by rw [p.pages]; exact hc
  have hl : h.last < 2 ^ 62 := by have := p.last; omega
  have hl2 := p.last
  have h0 : PlayI h c rm (m + 1) := ⟨p.r, p.s.mono (Nat.le_succ _), p.pages, p.room, by omega⟩
  unfold stepR
  split
  · exact ⟨p.r.begin, ⟨by have := p.s.v; show h.vs.length ≤ _; omega, by have := p.s.a; show (h.act ++ [h.last + 1]).length ≤ _; simp; omega, by have := p.s.c; show h.cm.length ≤ _; omega, by have := p.s.e; show h.es.length ≤ _; omega⟩, p.pages, p.room, by show h.last + 1 ≤ _; omega⟩
  · split
    · have hr := p.r.add hp hl o.txn o.data
      rcases add_cases h o.txn o.data with ⟨_, e⟩ | ⟨q, _, _, _, _, e⟩
      · rw [e]; exact h0
      · rw [e] at hr ⊢
        exact ⟨hr, p.s.write _, p.pages, p.room, by show h.last ≤ _; omega⟩
    · split
      · have hr := p.r.end_ hp hl o.txn o.page o.slot
        rcases end_cases h o.txn o.page o.slot with ⟨_, e⟩ | ⟨i, v, _, _, _, _, _, e⟩
        · rw [e]; exact h0
        · rw [e] at hr ⊢
          exact ⟨hr, p.s.write _, p.pages, p.room, by show h.last ≤ _; omega⟩
      · split
        · have hr := p.r.commit hl o.txn o.stamp
          rcases cm_cases h o.txn o.stamp with e | e
          · rw [e]; exact h0
          · rw [e] at hr ⊢
            exact ⟨hr, (show HrS (withoutR h o.txn) m from ⟨p.s.v, Nat.le_trans (List.length_filter_le _ _) p.s.a, p.s.c, p.s.e⟩).write _, p.pages, p.room, by show h.last ≤ _; omega⟩
        · split
          · have hr := p.r.abort o.txn
            rcases ab_cases h o.txn with e | e
            · rw [e]; exact h0
            · rw [e] at hr ⊢
              exact ⟨hr, ⟨by have := p.s.v; show h.vs.length ≤ _; omega, Nat.le_trans (List.length_filter_le _ _) (by have := p.s.a; omega), by have := p.s.c; show h.cm.length ≤ _; omega, by have := p.s.e; show h.es.length ≤ _; omega⟩, p.pages, p.room, by show h.last ≤ _; omega⟩
          · exact h0
theorem Hr.fitsC (B : Base) (q : HrQ) (h : HR) (m : Nat) (k : HrK h m) (ends : Int) (he : -(2 ^ 63) ≤ ends ∧ ends < 2 ^ 63) (ga : Nat) (x y : Int) (hm : m < 2 ^ 30) : Fn Tryz.prog B 79 #[hrV q h, .int .i64 ends, .slice (some ⟨ga, 0, none⟩) 2 2] [verR q.pv h.vs.length q.cv h.vs, acR q.pa h.act.length q.ca h.act, c8R q.pc h.cm.length q.cc h.cm, e8R q.pe h.es.length q.ce h.es, blk ga [zV x, zV y] 3] (fun u l => u = .bool (fitsR h ends [x, y]) ∧ l = hrL q h) := Hr.fits B q h m k ends he ga x y hm
theorem Hp.step (B : Base) (g b logs count n K : Nat) (q : HrQ) (h : HR) (m rm : Nat) (p : PlayI h count rm m) (hm : m < 2 ^ 29) (hc : 1 ≤ count ∧ count ≤ 4096) (hr : rm < 2 ^ 29) (hK : K + count + 2 < 2 ^ 28) (o : OpH) (ho : o.Ok) (da : Option Addr) (dc : Nat) (ka : Option Addr) (kc : Nat) (hdv : RoS B (.slice da o.data.length dc) (bytesV o.data)) (hdl : o.data.length ≤ 1048576) :
  Fn Tryz.prog B 27 #[pV g, hrV q h, .agg #[.int .i64 o.kind, .int .i64 o.txn, .int .i64 o.page, .int .i64 o.slot, .slice da o.data.length dc, .int .i64 o.stamp, .slice ka o.keep.length kc, .int .i64 o.t0, .int .i64 o.t1]] (hpA g b logs count n K h :: hrL q h) (fun u l => ∃ q' K', K' ≤ K + count + 2 ∧ u = .tuple #[hrV q' (stepR h o), .bool true] ∧ l = hpA g b logs count n K' (stepR h o) :: hrL q' (stepR h o)) := by
 have hk := p.k (by omega) hc.2 (by omega)
 have hl0 := p.r.last0
 have hlm := p.last
 have hcl := p.s.c
 refine Fn.enter3 174 Tryz.func27 rfl rfl (nB rfl) (fun F => ?_)
 try simp only [cA, nA]
 refine TS ?_
 refine Le rfl (zL [_, _, _, _, _, _, _, _] rfl rfl ?_)
 intro g4
 refine Le rfl (zL [_, _, _, _, _, _, _, _, _] rfl rfl ?_)
 intro g5
 refine Le rfl (El [.int .i64 0, .int .i64 0, .int .i64 0, .slice none 0 0, .slice none 0 0, .slice none 0 0, .int .i64 0, .slice none 0 0] (by unfold zeroB; kernel_rfl) ?_)
 intro g6
 refine La rfl rfl (Ld (Ts (TS (Lq rfl (Q0 (by kernel_rfl) rfl) (Lq rfl (Ql (by kernel_rfl) rfl rfl) (Ld ?_))))))
 refine yH (TS (Lq rfl (yU rfl rfl) (La rfl rfl (Ld ?_))))
 refine yN rfl (fun k0 => ?_) (fun k0 => ?_)
 ·
  rw [show stepR h o = beginR h by unfold stepR; rw [if_pos k0]]
  refine TS (Lq rfl (QL [_, _, _, _, _, _, _, _] (by kernel_rfl) rfl ⟨rfl, rfl, rfl, rfl, rfl, rfl, rfl, rfl, trivial⟩) ?_)
  refine Le rfl (Ec (Hr.begin B q h m hk.s hk.m (by omega)) Tryz.func74 rfl rfl rfl ?_)
  rintro _ _ ⟨q1, rfl, rfl⟩
  try simp only [cA, nA]
  refine Lm rfl rfl (Lq rfl (Qx rfl rfl) (Lq rfl (Qx rfl rfl) ?_))
  refine Le rfl (El [.int .i64 0, .int .i64 0, .int .i64 0, .slice none 0 0, .slice none 0 0, .slice none 0 0, .int .i64 0, .slice none 0 0] (by unfold zeroB; kernel_rfl) ?_)
  intro g8
  refine L0 rfl (Es [_, _, _, _, _, _, _, _] (by kernel_rfl) rfl rfl rfl rfl (by simp) ?_)
  try simp only [splice, lC, lN, dS, cA, tS, tZ, dZ, nA, aN]
  refine La rfl rfl (Ld (Ts (zW 8 (some g6) (by kernel_rfl) (nB rfl) (by kernel_rfl) (Rq 0 rfl rfl (by kernel_rfl) Sa (QL [_, _, _, _, _, _, _, _] (by kernel_rfl) rfl ⟨rfl, rfl, rfl, rfl, rfl, rfl, rfl, rfl, trivial⟩) (Rq 1 rfl rfl (by kernel_rfl) Sa (Qm rfl) (Rq 2 rfl rfl (by kernel_rfl) Sa (Qn rfl) (Rq 3 rfl rfl (by kernel_rfl) Sa (Q0 (by kernel_rfl) rfl) ?_)))))))
  refine Rq 5 rfl rfl (by kernel_rfl) Sa (Qm rfl) (yK 4 (by kernel_rfl) ?_)
  refine z6 rfl rfl (Ec (Hp.begin B g b logs count n K h (by omega)) Tryz.func17 rfl rfl rfl ?_)
  rintro _ _ ⟨rfl, rfl⟩
  try simp only [cA, nA]
  refine ⟨Sa, ?_⟩
  refine Rq 6 rfl rfl (by kernel_rfl) Sa (yU rfl rfl) (yK 7 (by kernel_rfl) ?_)
  refine YH rfl rfl (Es [_, _, _, _, _, _, _, _] (by kernel_rfl) rfl rfl rfl rfl (by simp) ?_)
  try simp only [splice, lC, lN, dS, cA, tS, tZ, dZ, nA, aN]
  refine ⟨Sa, ?_⟩
  refine Rd0 (by rfl) ?_
  simp only [dS, dZ, dN]
  refine La rfl rfl (Ld ?_)
  simp only [decide_true]
  refine T.ret ?_
  exact ⟨.inl rfl, _, _, res [_, _] rfl ⟨rvA [_, _, _, _, _, _, _, _] (by kernel_rfl) rfl ⟨rfl, rfl, rfl, rfl, rfl, rfl, rfl, rfl, trivial⟩, rvT rfl, trivial⟩, ⟨q1, K + 1, by omega, rfl, rfl⟩, Sa⟩
 refine TS (Lq rfl (yU rfl rfl) (La rfl rfl (Ld ?_)))
 refine yN rfl (fun k1 => ?_) (fun k1 => ?_)
 ·
  rw [show stepR h o = (addR' h o.txn o.data).1 by unfold stepR; rw [if_neg k0, if_pos k1]]
  refine TS (Lq rfl (QL [_, _, _, _, _, _, _, _] (by kernel_rfl) rfl ⟨rfl, rfl, rfl, rfl, rfl, rfl, rfl, rfl, trivial⟩) (Lq rfl (Qf (off := 1) (by kernel_rfl) rfl) (Lq rfl (Ql (by kernel_rfl) rfl rfl) (Lq rfl (Qf (off := 4) (by kernel_rfl) rfl) (Lq rfl (Ql (by kernel_rfl) rfl rfl) (Lq rfl (Z2 o.data (by kernel_rfl) (by kernel_rfl) rfl (hdv.rd _).str) ?_))))))
  refine Le rfl (Ec (Hr.add B q h m hk.w o.txn o.data (by omega)) Tryz.func75 rfl rfl rfl ?_)
  rintro _ _ ⟨q1, rfl, rfl⟩
  try simp only [cA, nA]
  refine Lm rfl rfl (Lq rfl (Qx rfl rfl) (Lq rfl (Qx rfl rfl) (Lq rfl (Qx rfl rfl) (Lq rfl (Qx rfl rfl) ?_))))
  refine Le rfl (El [.int .i64 0, .int .i64 0, .int .i64 0, .slice none 0 0, .slice none 0 0, .slice none 0 0, .int .i64 0, .slice none 0 0] (by unfold zeroB; kernel_rfl) ?_)
  intro g10
  refine L0 rfl (Es [_, _, _, _, _, _, _, _] (by kernel_rfl) rfl rfl rfl rfl (by simp) ?_)
  try simp only [splice, lC, lN, dS, cA, tS, tZ, dZ, nA, aN]
  refine La rfl rfl (La rfl rfl (La rfl rfl (Ld (TS (Lm rfl rfl (Lq rfl (Qf (off := 1) (by kernel_rfl) rfl) ?_))))))
  refine Lq rfl (Ql (by kernel_rfl) rfl rfl) (Lq rfl (Qf (off := 4) (by kernel_rfl) rfl) (Lq rfl (Ql (by kernel_rfl) rfl rfl) ?_))
  refine Le rfl (Ec (Hp.add B [] g b logs count n K h (by omega) o.txn da dc o.data (hdv.rd _) (by omega)) Tryz.func18 rfl rfl rfl ?_)
  rintro _ _ ⟨rfl, rfl⟩
  try simp only [cA, nA]
  refine Lm rfl rfl (Lq rfl (Qx rfl rfl) (Lq rfl (Qx rfl rfl) ?_))
  refine Le rfl (El [.int .i64 0, .int .i64 0] (by unfold zeroB; kernel_rfl) ?_)
  intro g14
  refine L0 rfl (Es [_, _] (by kernel_rfl) rfl rfl rfl rfl (by simp) ?_)
  try simp only [splice, lC, lN, dS, cA, tS, tZ, dZ, nA, aN]
  refine La rfl rfl (Ld (TS (Lq rfl (QL [_, _, _, _, _, _, _, _] (by kernel_rfl) rfl ⟨rfl, rfl, rfl, rfl, rfl, rfl, rfl, rfl, trivial⟩) (Lq rfl (Q0 (by kernel_rfl) rfl) (Lq rfl (Ql (by kernel_rfl) rfl rfl) (Lm rfl rfl ?_))))))
  refine Lq rfl (yU rfl rfl) (Lm rfl rfl (zQ (t := 66) rfl (decide_eq_true (by omega)) (Lq rfl (Qf (off := 1) (by kernel_rfl) rfl) (Lq rfl (Ql (by kernel_rfl) rfl rfl) (Lm rfl rfl (Lq rfl (yU rfl rfl) (Lq rfl (Qp rfl rfl) ?_)))))))
  refine Lm rfl rfl (zQ (t := 72) rfl (decide_eq_true (by omega)) (Lm rfl rfl (Lm rfl rfl (Lq rfl (yU rfl rfl) (Lq rfl (Qp rfl rfl) ?_)))))
  refine L0 rfl (Es [_, _, _, _, _, _, _, _] (by kernel_rfl) rfl rfl rfl rfl (by simp) ?_)
  try simp only [splice, lC, lN, dS, cA, tS, tZ, dZ, nA, aN]
  refine La rfl rfl (Ld ?_)
  simp only [decide_true]
  refine T.ret ?_
  exact ⟨.inl rfl, _, _, res [_, _] rfl ⟨rvA [_, _, _, _, _, _, _, _] (by kernel_rfl) rfl ⟨rfl, rfl, rfl, rfl, rfl, rfl, rfl, rfl, trivial⟩, rvT rfl, trivial⟩, ⟨q1, K + count + 1, by omega, rfl, rfl⟩, Sa⟩
 refine TS (Lq rfl (yU rfl rfl) (La rfl rfl (Ld ?_)))
 refine yN rfl (fun k2 => ?_) (fun k2 => ?_)
 ·
  rw [show stepR h o = (endR h o.txn o.page o.slot).1 by unfold stepR; rw [if_neg k0, if_neg k1, if_pos k2]]
  refine TS (Lq rfl (QL [_, _, _, _, _, _, _, _] (by kernel_rfl) rfl ⟨rfl, rfl, rfl, rfl, rfl, rfl, rfl, rfl, trivial⟩) (Lq rfl (Qf (off := 1) (by kernel_rfl) rfl) (Lq rfl (Ql (by kernel_rfl) rfl rfl) (Lq rfl (Qf (off := 2) (by kernel_rfl) rfl) (Lq rfl (Ql (by kernel_rfl) rfl rfl) (Lq rfl (Qf (off := 3) (by kernel_rfl) rfl) ?_))))))
  refine Lq rfl (Ql (by kernel_rfl) rfl rfl) ?_
  refine Le rfl (Ec (Hr.end_ B q h m hk o.txn o.page o.slot) Tryz.func76 rfl rfl rfl ?_)
  rintro _ _ ⟨q1, rfl, rfl⟩
  try simp only [cA, nA]
  refine Lm rfl rfl (Lq rfl (Qx rfl rfl) (Lq rfl (Qx rfl rfl) ?_))
  refine Le rfl (El [.int .i64 0, .int .i64 0, .int .i64 0, .slice none 0 0, .slice none 0 0, .slice none 0 0, .int .i64 0, .slice none 0 0] (by unfold zeroB; kernel_rfl) ?_)
  intro g16
  refine L0 rfl (Es [_, _, _, _, _, _, _, _] (by kernel_rfl) rfl rfl rfl rfl (by simp) ?_)
  try simp only [splice, lC, lN, dS, cA, tS, tZ, dZ, nA, aN]
  refine La rfl rfl (Ld (Ts (zW 13 (some g6) (by kernel_rfl) (nB rfl) (by kernel_rfl) (Rq 0 rfl rfl (by kernel_rfl) Sa (QL [_, _, _, _, _, _, _, _] (by kernel_rfl) rfl ⟨rfl, rfl, rfl, rfl, rfl, rfl, rfl, rfl, trivial⟩) (Rq 1 rfl rfl (by kernel_rfl) Sa (Qm rfl) (Rq 2 rfl rfl (by kernel_rfl) Sa (Qf (off := 1) (by kernel_rfl) rfl) (Rq 3 rfl rfl (by kernel_rfl) Sa (Ql (by kernel_rfl) rfl rfl) ?_)))))))
  refine Rq 4 rfl rfl (by kernel_rfl) Sa (Qf (off := 2) (by kernel_rfl) rfl) (Rq 5 rfl rfl (by kernel_rfl) Sa (Ql (by kernel_rfl) rfl rfl) (Rq 6 rfl rfl (by kernel_rfl) Sa (Qf (off := 3) (by kernel_rfl) rfl) (Rq 7 rfl rfl (by kernel_rfl) Sa (Ql (by kernel_rfl) rfl rfl) (Rq 8 rfl rfl (by kernel_rfl) Sa (z8 [(0, 1), (1, 1)] [.int .i64 0, .int .i64 0] [_, _] [(0, _), (1, _)] (by kernel_rfl) (by unfold zeroB; kernel_rfl) rfl rfl) (Rq 10 rfl rfl (by kernel_rfl) Sa (Qm rfl) (yK 9 (by kernel_rfl) ?_))))))
  refine z6 rfl rfl (Ec (Hp.end_ B g b logs count n K h (by omega) o.txn o.page o.slot) Tryz.func22 rfl rfl rfl ?_)
  rintro _ _ ⟨rfl, rfl⟩
  try simp only [cA, nA]
  refine ⟨Sa, ?_⟩
  refine Rq 11 rfl rfl (by kernel_rfl) Sa (yU rfl rfl) (yK 12 (by kernel_rfl) ?_)
  refine YH rfl rfl (Es [_, _, _, _, _, _, _, _] (by kernel_rfl) rfl rfl rfl rfl (by simp) ?_)
  try simp only [splice, lC, lN, dS, cA, tS, tZ, dZ, nA, aN]
  refine ⟨Sa, ?_⟩
  refine Rd0 (by rfl) ?_
  simp only [dS, dZ, dN]
  refine La rfl rfl (Ld ?_)
  simp only [decide_true]
  refine T.ret ?_
  exact ⟨.inl rfl, _, _, res [_, _] rfl ⟨rvA [_, _, _, _, _, _, _, _] (by kernel_rfl) rfl ⟨rfl, rfl, rfl, rfl, rfl, rfl, rfl, rfl, trivial⟩, rvT rfl, trivial⟩, ⟨q1, K + 2, by omega, rfl, rfl⟩, Sa⟩
 refine TS (Lq rfl (yU rfl rfl) (La rfl rfl (Ld ?_)))
 refine yN rfl (fun k3 => ?_) (fun k3 => ?_)
 ·
  have hst := (p.step (by omega) hc.2 o).s.c
  rw [show stepR h o = (commitR h o.txn o.stamp).1 by unfold stepR; rw [if_neg k0, if_neg k1, if_neg k2, if_pos k3]] at hst ⊢
  refine TS (Lq rfl (QL [_, _, _, _, _, _, _, _] (by kernel_rfl) rfl ⟨rfl, rfl, rfl, rfl, rfl, rfl, rfl, rfl, trivial⟩) (Lq rfl (Qf (off := 1) (by kernel_rfl) rfl) (Lq rfl (Ql (by kernel_rfl) rfl rfl) (Lq rfl (Qf (off := 5) (by kernel_rfl) rfl) (Lq rfl (Ql (by kernel_rfl) rfl rfl) ?_)))))
  refine Le rfl (Ec (Hr.commit B q h m hk o.txn o.stamp) Tryz.func38 rfl rfl rfl ?_)
  rintro _ _ ⟨q1, rfl, rfl⟩
  try simp only [cA, nA]
  refine Lm rfl rfl (Lq rfl (Qx rfl rfl) (Lq rfl (Qx rfl rfl) ?_))
  refine Le rfl (El [.int .i64 0, .int .i64 0, .int .i64 0, .slice none 0 0, .slice none 0 0, .slice none 0 0, .int .i64 0, .slice none 0 0] (by unfold zeroB; kernel_rfl) ?_)
  intro g18
  refine L0 rfl (Es [_, _, _, _, _, _, _, _] (by kernel_rfl) rfl rfl rfl rfl (by simp) ?_)
  try simp only [splice, lC, lN, dS, cA, tS, tZ, dZ, nA, aN]
  refine La rfl rfl (Ld (Ts (zW 15 (some g6) (by kernel_rfl) (nB rfl) (by kernel_rfl) (Rq 0 rfl rfl (by kernel_rfl) Sa (QL [_, _, _, _, _, _, _, _] (by kernel_rfl) rfl ⟨rfl, rfl, rfl, rfl, rfl, rfl, rfl, rfl, trivial⟩) (Rq 1 rfl rfl (by kernel_rfl) Sa (Qm rfl) (Rq 2 rfl rfl (by kernel_rfl) Sa (Qf (off := 1) (by kernel_rfl) rfl) (Rq 3 rfl rfl (by kernel_rfl) Sa (Ql (by kernel_rfl) rfl rfl) ?_)))))))
  refine Rq 4 rfl rfl (by kernel_rfl) Sa (Qf (off := 5) (by kernel_rfl) rfl) (Rq 5 rfl rfl (by kernel_rfl) Sa (Ql (by kernel_rfl) rfl rfl) (Rq 7 rfl rfl (by kernel_rfl) Sa (Qm rfl) (yK 6 (by kernel_rfl) ?_)))
  refine z6 rfl rfl (Ec (Hp.commit B g b logs count n K h (by omega) o.txn o.stamp (by omega)) Tryz.func20 rfl rfl rfl ?_)
  rintro _ _ ⟨rfl, rfl⟩
  try simp only [cA, nA]
  refine ⟨Sa, ?_⟩
  refine Rq 8 rfl rfl (by kernel_rfl) Sa (yU rfl rfl) (Rq 9 rfl rfl (by kernel_rfl) Sa (Qm rfl) (YY (t := 122) rfl (decide_eq_true (by omega)) (Rq 10 rfl rfl (by kernel_rfl) Sa (Qm rfl) (Rq 11 rfl rfl (by kernel_rfl) Sa (QL [_, _, _, _, _, _, _, _] (by kernel_rfl) rfl ⟨rfl, rfl, rfl, rfl, rfl, rfl, rfl, rfl, trivial⟩) (yK 12 (by kernel_rfl) ?_)))))
  refine z6 rfl rfl (Ec (Hp.commitsLaw B g b logs count n K q1 (commitR h o.txn o.stamp).1 (by omega)) Tryz.func30 rfl rfl rfl ?_)
  rintro _ _ ⟨rfl, rfl⟩
  try simp only [cA, nA]
  refine ⟨Sa, ?_⟩
  refine Rq 13 rfl rfl (by kernel_rfl) Sa (Qp rfl rfl) (yK 14 (by kernel_rfl) ?_)
  refine YH rfl rfl (Es [_, _, _, _, _, _, _, _] (by kernel_rfl) rfl rfl rfl rfl (by simp) ?_)
  try simp only [splice, lC, lN, dS, cA, tS, tZ, dZ, nA, aN]
  refine ⟨Sa, ?_⟩
  refine Rd0 (by rfl) ?_
  simp only [dS, dZ, dN]
  refine La rfl rfl (Ld (T.ret ?_))
  exact ⟨.inl rfl, _, _, res [_, _] rfl ⟨rvA [_, _, _, _, _, _, _, _] (by kernel_rfl) rfl ⟨rfl, rfl, rfl, rfl, rfl, rfl, rfl, rfl, trivial⟩, rvT rfl, trivial⟩, ⟨q1, K, by omega, rfl, rfl⟩, Sa⟩
 refine TS (Lq rfl (yU rfl rfl) (La rfl rfl (Ld ?_)))
 refine yN rfl (fun k4 => ?_) (fun k4 => ?_)
 ·
  rw [show stepR h o = (abortR h o.txn).1 by unfold stepR; rw [if_neg k0, if_neg k1, if_neg k2, if_neg k3, if_pos k4]]
  refine TS (Lq rfl (QL [_, _, _, _, _, _, _, _] (by kernel_rfl) rfl ⟨rfl, rfl, rfl, rfl, rfl, rfl, rfl, rfl, trivial⟩) (Lq rfl (Qf (off := 1) (by kernel_rfl) rfl) (Lq rfl (Ql (by kernel_rfl) rfl rfl) ?_)))
  refine Le rfl (Ec (Hr.abort B q h o.txn m hk.s hk.m) Tryz.func77 rfl rfl rfl ?_)
  rintro _ _ ⟨q1, rfl, rfl⟩
  try simp only [cA, nA]
  refine Lm rfl rfl (Lq rfl (Qx rfl rfl) (Lq rfl (Qx rfl rfl) ?_))
  refine Le rfl (El [.int .i64 0, .int .i64 0, .int .i64 0, .slice none 0 0, .slice none 0 0, .slice none 0 0, .int .i64 0, .slice none 0 0] (by unfold zeroB; kernel_rfl) ?_)
  intro g20
  refine L0 rfl (Es [_, _, _, _, _, _, _, _] (by kernel_rfl) rfl rfl rfl rfl (by simp) ?_)
  try simp only [splice, lC, lN, dS, cA, tS, tZ, dZ, nA, aN]
  refine La rfl rfl (Ld (Ts (zW 10 (some g6) (by kernel_rfl) (nB rfl) (by kernel_rfl) (Rq 0 rfl rfl (by kernel_rfl) Sa (QL [_, _, _, _, _, _, _, _] (by kernel_rfl) rfl ⟨rfl, rfl, rfl, rfl, rfl, rfl, rfl, rfl, trivial⟩) (Rq 1 rfl rfl (by kernel_rfl) Sa (Qm rfl) (Rq 2 rfl rfl (by kernel_rfl) Sa (Qn rfl) (Rq 3 rfl rfl (by kernel_rfl) Sa (Q0 (by kernel_rfl) rfl) ?_)))))))
  refine Rq 4 rfl rfl (by kernel_rfl) Sa (Qf (off := 1) (by kernel_rfl) rfl) (Rq 5 rfl rfl (by kernel_rfl) Sa (Ql (by kernel_rfl) rfl rfl) (Rq 7 rfl rfl (by kernel_rfl) Sa (Qm rfl) (yK 6 (by kernel_rfl) ?_)))
  refine z6 rfl rfl (Ec (Hp.abort B g b logs count n K h o.txn) Tryz.func23 rfl rfl rfl ?_)
  rintro _ _ ⟨rfl, rfl⟩
  try simp only [cA, nA]
  refine ⟨Sa, ?_⟩
  refine Rq 8 rfl rfl (by kernel_rfl) Sa (yU rfl rfl) (yK 9 (by kernel_rfl) ?_)
  refine YH rfl rfl (Es [_, _, _, _, _, _, _, _] (by kernel_rfl) rfl rfl rfl rfl (by simp) ?_)
  try simp only [splice, lC, lN, dS, cA, tS, tZ, dZ, nA, aN]
  refine ⟨Sa, ?_⟩
  refine Rd0 (by rfl) ?_
  simp only [dS, dZ, dN]
  refine La rfl rfl (Ld ?_)
  simp only [decide_true]
  refine T.ret ?_
  exact ⟨.inl rfl, _, _, res [_, _] rfl ⟨rvA [_, _, _, _, _, _, _, _] (by kernel_rfl) rfl ⟨rfl, rfl, rfl, rfl, rfl, rfl, rfl, rfl, trivial⟩, rvT rfl, trivial⟩, ⟨q1, K, by omega, rfl, rfl⟩, Sa⟩
 rw [show stepR h o = h by unfold stepR; rw [if_neg k0, if_neg k1, if_neg k2, if_neg k3, if_neg k4]]
 refine TS (Lq rfl (yU rfl rfl) (La rfl rfl (Ld ?_)))
 refine yN rfl (fun k5 => ?_) (fun k5 => ?_)
 ·
  refine TR (Lm rfl rfl ?_)
  refine Le rfl (Ec (Hp.flush B g b logs count n K h (by omega)) Tryz.func78 rfl rfl rfl ?_)
  rintro _ _ ⟨rfl, rfl⟩
  try simp only [cA, nA]
  refine Ld (TS (Lq rfl (QL [_, _, _, _, _, _, _, _] (by kernel_rfl) rfl ⟨rfl, rfl, rfl, rfl, rfl, rfl, rfl, rfl, trivial⟩) ?_))
  refine L0 rfl (Es [_, _, _, _, _, _, _, _] (by kernel_rfl) rfl rfl rfl rfl (by simp) ?_)
  try simp only [splice, lC, lN, dS, cA, tS, tZ, dZ, nA, aN]
  refine La rfl rfl (Ld (T.ret ?_))
  exact ⟨.inl rfl, _, _, res [_, _] rfl ⟨rvA [_, _, _, _, _, _, _, _] (by kernel_rfl) rfl ⟨rfl, rfl, rfl, rfl, rfl, rfl, rfl, rfl, trivial⟩, rvT rfl, trivial⟩, ⟨q, K, by omega, rfl, rfl⟩, Sa⟩
 refine TS (Lq rfl (yU rfl rfl) (La rfl rfl (Ld ?_)))
 refine yN rfl (fun k6 => ?_) (fun k6 => ?_)
 ·
  refine Ts (zW 23 (some g6) (by kernel_rfl) (nB rfl) (by kernel_rfl) (Rq 0 rfl rfl (by kernel_rfl) Sa (QL [_, _, _, _, _, _, _, _] (by kernel_rfl) rfl ⟨rfl, rfl, rfl, rfl, rfl, rfl, rfl, rfl, trivial⟩) (Rq 1 rfl rfl (by kernel_rfl) Sa (Qm rfl) (Rq 2 rfl rfl (by kernel_rfl) Sa (Qf (off := 3) (by kernel_rfl) rfl) (Rq 3 rfl rfl (by kernel_rfl) Sa (Ql (by kernel_rfl) rfl rfl) (Rq 4 rfl rfl (by kernel_rfl) Sa (Qf (off := 2) (by kernel_rfl) rfl) (Rq 5 rfl rfl (by kernel_rfl) Sa (Ql (by kernel_rfl) rfl rfl) ?_)))))))
  refine Rq 6 rfl rfl (by kernel_rfl) Sa (Qf (off := 4) (by kernel_rfl) rfl) (Rq 7 rfl rfl (by kernel_rfl) Sa (Ql (by kernel_rfl) rfl rfl) (Rq 8 rfl rfl (by kernel_rfl) Sa (yI (e := 5) (sz := 1) (by kernel_rfl) rfl) (Rq 11 rfl rfl (by kernel_rfl) Sa (QL [_, _, _, _, _, _, _, _] (by kernel_rfl) rfl ⟨rfl, rfl, rfl, rfl, rfl, rfl, rfl, rfl, trivial⟩) (Rq 12 rfl rfl (by kernel_rfl) Sa (Qf (off := 3) (by kernel_rfl) rfl) (Rq 13 rfl rfl (by kernel_rfl) Sa (Ql (by kernel_rfl) rfl rfl) (Rq 14 rfl rfl (by kernel_rfl) Sa (Qf (off := 2) (by kernel_rfl) rfl) (Rq 15 rfl rfl (by kernel_rfl) Sa (Ql (by kernel_rfl) rfl rfl) ?_)))))))
  refine Rq 16 rfl rfl (by kernel_rfl) Sa (Qf (off := 4) (by kernel_rfl) rfl) (Rq 17 rfl rfl (by kernel_rfl) Sa (Ql (by kernel_rfl) rfl rfl) (Rq 18 rfl rfl (by kernel_rfl) Sa (yI (e := 5) (sz := 1) (by kernel_rfl) rfl) ?_))
  refine YC [9, 19] (by kernel_rfl) (List.forall_mem_cons.2 ⟨?_, List.forall_mem_cons.2 ⟨?_, List.forall_mem_nil _⟩⟩)
  ·
   refine z6 rfl rfl (ZC [_, _] (e := 3) (by kernel_rfl) (by kernel_rfl) rfl (by simp [Value.cells]) rfl (by omega) (by omega) ?_)
   intro g160
   refine ⟨Sa, ?_⟩
   refine YC [10, 19] (by kernel_rfl) (List.forall_mem_cons.2 ⟨?_, List.forall_mem_cons.2 ⟨?_, List.forall_mem_nil _⟩⟩)
   ·
    refine z6 rfl rfl (Ec (Hp.fits B [blk g160 [zV o.page, zV o.data.length] 3] g b logs count n K h (by omega) hc.1 o.slot ho.2 (some ⟨g160, 0, none⟩) 2 2 [o.page, o.data.length] ⟨_, 2, rfl, .inr ⟨g160, 0, rfl, fun w ho => ho.range (g := g160) (C := [zV o.page, zV o.data.length]) (fun j u hj => by rw [Nat.zero_add]; exact hj)⟩⟩ rfl (by omega)) Tryz.func24 rfl rfl rfl ?_)
    rintro _ _ ⟨rfl, rfl⟩
    try simp only [cA, nA]
    refine ⟨Sa, ?_⟩
    refine yK 19 (by kernel_rfl) ?_
    refine z6 rfl rfl (ZC [_, _] (e := 3) (by kernel_rfl) (by kernel_rfl) rfl (by simp [Value.cells]) rfl (by omega) (by omega) ?_)
    intro g170
    refine ⟨Sa, ?_⟩
    refine yK 20 (by kernel_rfl) ?_
    refine z6 rfl rfl (Ec (Hr.fitsC B q h m hk o.slot ho.2 g170 o.page o.data.length (by omega)) Tryz.func79 rfl rfl rfl ?_)
    rintro _ _ ⟨rfl, rfl⟩
    try simp only [cA, nA]
    refine ⟨Sa, ?_⟩
    refine Rq 21 rfl rfl (by kernel_rfl) Sa (X2 (by kernel_rfl) rfl rfl) (yK 22 (by kernel_rfl) ?_)
    refine YH rfl rfl (Es [_, _, _, _, _, _, _, _] (by kernel_rfl) rfl rfl rfl rfl (by simp) ?_)
    try simp only [splice, lC, lN, dS, cA, tS, tZ, dZ, nA, aN]
    refine ⟨Sa, ?_⟩
    refine Rd0 (by rfl) ?_
    simp only [dS, dZ, dN]
    refine La rfl rfl (Ld ?_)
    simp only [beq_self_eq_true]
    refine T.ret ?_
    exact ⟨.inl rfl, _, _, res [_, _] rfl ⟨rvA [_, _, _, _, _, _, _, _] (by kernel_rfl) rfl ⟨rfl, rfl, rfl, rfl, rfl, rfl, rfl, rfl, trivial⟩, rvT rfl, trivial⟩, ⟨q, K + count, by omega, rfl, rfl⟩, Sa⟩
   refine z6 rfl rfl (ZC [_, _] (e := 3) (by kernel_rfl) (by kernel_rfl) rfl (by simp [Value.cells]) rfl (by omega) (by omega) ?_)
   intro g170
   refine ⟨Sa, ?_⟩
   refine yK 10 (by kernel_rfl) ?_
   refine z6 rfl rfl (Ec (Hp.fits B [blk g160 [zV o.page, zV o.data.length] 3] g b logs count n K h (by omega) hc.1 o.slot ho.2 (some ⟨g160, 0, none⟩) 2 2 [o.page, o.data.length] ⟨_, 2, rfl, .inr ⟨g160, 0, rfl, fun w ho => ho.range (g := g160) (C := [zV o.page, zV o.data.length]) (fun j u hj => by rw [Nat.zero_add]; exact hj)⟩⟩ rfl (by omega)) Tryz.func24 rfl rfl rfl ?_)
   rintro _ _ ⟨rfl, rfl⟩
   try simp only [cA, nA]
   refine ⟨Sa, ?_⟩
   refine yK 20 (by kernel_rfl) ?_
   refine z6 rfl rfl (Ec (Hr.fitsC B q h m hk o.slot ho.2 g170 o.page o.data.length (by omega)) Tryz.func79 rfl rfl rfl ?_)
   rintro _ _ ⟨rfl, rfl⟩
   try simp only [cA, nA]
   refine ⟨Sa, ?_⟩
   refine Rq 21 rfl rfl (by kernel_rfl) Sa (X2 (by kernel_rfl) rfl rfl) (yK 22 (by kernel_rfl) ?_)
   refine YH rfl rfl (Es [_, _, _, _, _, _, _, _] (by kernel_rfl) rfl rfl rfl rfl (by simp) ?_)
   try simp only [splice, lC, lN, dS, cA, tS, tZ, dZ, nA, aN]
   refine ⟨Sa, ?_⟩
   refine Rd0 (by rfl) ?_
   simp only [dS, dZ, dN]
   refine La rfl rfl (Ld ?_)
   simp only [beq_self_eq_true]
   refine T.ret ?_
   exact ⟨.inl rfl, _, _, res [_, _] rfl ⟨rvA [_, _, _, _, _, _, _, _] (by kernel_rfl) rfl ⟨rfl, rfl, rfl, rfl, rfl, rfl, rfl, rfl, trivial⟩, rvT rfl, trivial⟩, ⟨q, K + count, by omega, rfl, rfl⟩, Sa⟩
  refine z6 rfl rfl (ZC [_, _] (e := 3) (by kernel_rfl) (by kernel_rfl) rfl (by simp [Value.cells]) rfl (by omega) (by omega) ?_)
  intro g170
  refine ⟨Sa, ?_⟩
  refine yK 9 (by kernel_rfl) ?_
  refine z6 rfl rfl (ZC [_, _] (e := 3) (by kernel_rfl) (by kernel_rfl) rfl (by simp [Value.cells]) rfl (by omega) (by omega) ?_)
  intro g160
  refine ⟨Sa, ?_⟩
  refine yK 10 (by kernel_rfl) ?_
  refine z6 rfl rfl (Ec (Hp.fits B [blk g160 [zV o.page, zV o.data.length] 3] g b logs count n K h (by omega) hc.1 o.slot ho.2 (some ⟨g160, 0, none⟩) 2 2 [o.page, o.data.length] ⟨_, 2, rfl, .inr ⟨g160, 0, rfl, fun w ho => ho.range (g := g160) (C := [zV o.page, zV o.data.length]) (fun j u hj => by rw [Nat.zero_add]; exact hj)⟩⟩ rfl (by omega)) Tryz.func24 rfl rfl rfl ?_)
  rintro _ _ ⟨rfl, rfl⟩
  try simp only [cA, nA]
  refine ⟨Sa, ?_⟩
  refine yK 20 (by kernel_rfl) ?_
  refine z6 rfl rfl (Ec (Hr.fitsC B q h m hk o.slot ho.2 g170 o.page o.data.length (by omega)) Tryz.func79 rfl rfl rfl ?_)
  rintro _ _ ⟨rfl, rfl⟩
  try simp only [cA, nA]
  refine ⟨Sa, ?_⟩
  refine Rq 21 rfl rfl (by kernel_rfl) Sa (X2 (by kernel_rfl) rfl rfl) (yK 22 (by kernel_rfl) ?_)
  refine YH rfl rfl (Es [_, _, _, _, _, _, _, _] (by kernel_rfl) rfl rfl rfl rfl (by simp) ?_)
  try simp only [splice, lC, lN, dS, cA, tS, tZ, dZ, nA, aN]
  refine ⟨Sa, ?_⟩
  refine Rd0 (by rfl) ?_
  simp only [dS, dZ, dN]
  refine La rfl rfl (Ld ?_)
  simp only [beq_self_eq_true]
  refine T.ret ?_
  exact ⟨.inl rfl, _, _, res [_, _] rfl ⟨rvA [_, _, _, _, _, _, _, _] (by kernel_rfl) rfl ⟨rfl, rfl, rfl, rfl, rfl, rfl, rfl, rfl, trivial⟩, rvT rfl, trivial⟩, ⟨q, K + count, by omega, rfl, rfl⟩, Sa⟩
 refine Tk (TS (Lq rfl (QL [_, _, _, _, _, _, _, _] (by kernel_rfl) rfl ⟨rfl, rfl, rfl, rfl, rfl, rfl, rfl, rfl, trivial⟩) ?_))
 refine L0 rfl (Es [_, _, _, _, _, _, _, _] (by kernel_rfl) rfl rfl rfl rfl (by simp) ?_)
 try simp only [splice, lC, lN, dS, cA, tS, tZ, dZ, nA, aN]
 refine La rfl rfl (Ld (T.ret ?_))
 exact ⟨.inl rfl, _, _, res [_, _] rfl ⟨rvA [_, _, _, _, _, _, _, _] (by kernel_rfl) rfl ⟨rfl, rfl, rfl, rfl, rfl, rfl, rfl, rfl, trivial⟩, rvT rfl, trivial⟩, ⟨q, K, by omega, rfl, rfl⟩, Sa⟩
open Go.RowKit
theorem Hp.openedNil (B : Base) (i j k : Int) (h : i < 1) : Fn Tryz.prog B 16 #[.int .i64 i, .int .i64 j, .int .i64 k] [] (fun u l => u = .tuple #[.pointer none, .pointer none, .int .i64 1] ∧ l = []) := by
 refine Fn.enter3 32 Tryz.func16 rfl rfl (nB rfl) (fun F => ?_)
 try simp only [cA, nA]
 refine TS (La rfl rfl (La rfl rfl (La rfl rfl (Ld (TS ?_)))))
 refine Lm rfl rfl ?_
 refine Le rfl (Ec (Dk.newF_no B i (.inl h)) Tryz.func57 rfl rfl rfl ?_)
 rintro _ _ ⟨rfl, rfl⟩
 try simp only [cA, nA]
 refine Lm rfl rfl (Lq rfl (Qx rfl rfl) (Lq rfl (Qx rfl rfl) (La rfl rfl (La rfl rfl (Ld (Ts (Ts ?_)))))))
 refine TR (Lm rfl rfl (Lq rfl (Y5 (by kernel_rfl) rfl rfl) (Ld (zF rfl (TS (La rfl rfl ?_))))))
 refine La rfl rfl (La rfl rfl (Ld (T.ret ?_)))
 exact ⟨.inl rfl, _, _, res [_, _, _] rfl ⟨rvT rfl, rvT rfl, rvT rfl, trivial⟩, ⟨rfl, rfl⟩, Sa⟩
theorem Hp.openedNo (B : Base) (N : Nat) (i j k : Int) (hi : i = N) (h1 : 1 ≤ N) (hN : N ≤ 4096) (h : j < 1 ∨ (N : Int) ≤ j ∨ k < 1 ∨ 4096 < k) : Fn Tryz.prog B 16 #[.int .i64 i, .int .i64 j, .int .i64 k] [] (fun u l => ∃ b, u = .tuple #[pV b, .pointer none, .int .i64 1] ∧ l = []) := by
 subst hi
 refine Fn.enter3 32 Tryz.func16 rfl rfl (nB rfl) (fun F => ?_)
 try simp only [cA, nA]
 refine TS (La rfl rfl (La rfl rfl (La rfl rfl (Ld (TS ?_)))))
 refine Lm rfl rfl ?_
 refine Le rfl (Ec (Dk.newF B N N rfl h1 hN) Tryz.func57 rfl rfl rfl ?_)
 rintro _ _ ⟨b, rfl, rfl⟩
 try simp only [cA, nA]
 refine Lm rfl rfl (Lq rfl (Qx rfl rfl) (Lq rfl (Qx rfl rfl) (La rfl rfl (La rfl rfl (Ld (Ts (Ts ?_)))))))
 refine TR (Lm rfl rfl (Lq rfl (Y1 (by kernel_rfl) rfl rfl) (Ld (yQ rfl (Tk (TS ?_))))))
 refine Lm rfl rfl (Lm rfl rfl (Lm rfl rfl ?_))
 refine Le rfl (Ec (Hp.openNo B b ⟨List.replicate N zs, []⟩ j k (by simpa using hN) (by simpa using h)) Tryz.func37 rfl rfl rfl ?_)
 rintro _ _ ⟨rfl, rfl⟩
 try simp only [cA, nA]
 refine Lm rfl rfl (Lq rfl (Qx rfl rfl) (Lq rfl (Qx rfl rfl) (Lq rfl (Qx rfl rfl) ?_)))
 refine Le rfl (El [.slice none 0 0, .slice none 0 0, .slice none 0 0, .int .i64 0] (by unfold zeroB; kernel_rfl) ?_)
 intro g12
 refine La rfl rfl ?_
 refine L0 rfl (Es [_, _, _, _] (by kernel_rfl) rfl rfl rfl rfl (by simp) ?_)
 try simp only [splice, lC, lN, dS, cA, tS, tZ, dZ, nA, aN]
 refine La rfl rfl (Ld (TS (Lm rfl rfl (Lm rfl rfl (Lm rfl rfl (La rfl rfl ?_))))))
 refine La rfl rfl (La rfl rfl (Ld (T.ret ?_)))
 exact ⟨.inl rfl, _, _, res [_, _, _] rfl ⟨rvT rfl, rvT rfl, rvT rfl, trivial⟩, ⟨b, rfl, rfl⟩, Sa⟩
theorem all_data {h : HR} (r : RInv h) {x : Ver} (hx : x ∈ allR h) : x.data.length ≤ 184 := by
 obtain ⟨i, v, h1, h2, h3, _⟩ := all_mem r hx
 have hv := (r.ok.vok v (List.mem_of_getElem? h2)).2.1
 have : x.data = v.data := by
  unfold visV at h3
  split at h3
  · cases h3
  · split at h3 <;> (cases h3; rfl)
 rw [this]; exact hv
theorem Hp.plays (B : Base) (a0 a1 a2 : Int) (sv : Value) (sc : List OpH) (hsv : RoLH B sv sc) (hsl : sc.length ≤ 1048576) (hdl : ∀ x ∈ sc, x.data.length ≤ 1048576) (hok : ∀ x ∈ sc, x.Ok) :
  Fn Tryz.prog B 7 #[.agg #[.int .i64 a0, .int .i64 a1, .int .i64 a2], sv] [] (fun v l => v = .bool true ∧ l = []) := by
 obtain ⟨sa, scap, rfl, hsc⟩ := hsv
 refine Fn.enter2 89 Tryz.func7 rfl rfl (nB rfl) (fun F => ?_)
 try simp only [cA, nA]
 refine TS ?_
 refine Le rfl (zL [_, _, _] rfl rfl ?_)
 intro g2
 refine La rfl rfl (Ld (Ts (TS ?_)))
 refine Le rfl (Ec (Hp.awake B) Tryz.func15 rfl rfl rfl ?_)
 rintro _ _ ⟨rfl, rfl⟩
 try simp only [cA, nA]
 refine Lq rfl (Y2 rfl) (Ld (yQ rfl (Tk (Ts (TS (Lq rfl (YA 0 (len := 3) (e := 3) (sz := 1) (by kernel_rfl) rfl rfl rfl (by omega)) ?_))))))
 refine Lq rfl (Ql (by kernel_rfl) rfl rfl) (Lq rfl (yZ rfl rfl) (Ld ?_))
 refine yN rfl (fun hbig => ?_) (fun hbig => ?_)
 ·
  refine TS (La rfl rfl (Ld (T.ret ?_)))
  exact ⟨.inl rfl, _, _, res [_] rfl ⟨rvT rfl, trivial⟩, ⟨rfl, rfl⟩, Sa⟩
 by_cases h0 : a0 < 1
 ·
  refine Tk (TS (Lq rfl (YA 0 (len := 3) (e := 3) (sz := 1) (by kernel_rfl) rfl rfl rfl (by omega)) (Lq rfl (Ql (by kernel_rfl) rfl rfl) (Lq rfl (YA 1 (len := 3) (e := 3) (sz := 1) (by kernel_rfl) rfl rfl rfl (by omega)) (Lq rfl (Ql (by kernel_rfl) rfl rfl) (Lq rfl (YA 2 (len := 3) (e := 3) (sz := 1) (by kernel_rfl) rfl rfl rfl (by omega)) ?_))))))
  refine Lq rfl (Ql (by kernel_rfl) rfl rfl) ?_
  refine Le rfl (Ec (Hp.openedNil B a0 a1 a2 h0) Tryz.func16 rfl rfl rfl ?_)
  rintro _ _ ⟨rfl, rfl⟩
  try simp only [cA, nA]
  refine Lm rfl rfl (Lq rfl (Qx rfl rfl) (Lq rfl (Qx rfl rfl) (Lq rfl (Qx rfl rfl) (La rfl rfl (La rfl rfl (La rfl rfl (Ld ?_)))))))
  refine Ts (TS (Lm rfl rfl (Lq rfl (Y5 (by kernel_rfl) rfl rfl) (Ld (zF rfl (Ts ?_))))))
  refine TR (Lq rfl (YA 0 (len := 3) (e := 3) (sz := 1) (by kernel_rfl) rfl rfl rfl (by omega)) (Lq rfl (Ql (by kernel_rfl) rfl rfl) (Lq rfl (yM rfl rfl) (La rfl rfl (Ld (T.ret ?_))))))
  exact ⟨.inl rfl, _, _, res [_] rfl ⟨rvT rfl, trivial⟩, ⟨by rw [decide_eq_true h0]; rfl, rfl⟩, Sa⟩
 obtain ⟨N, rfl⟩ : ∃ N : Nat, a0 = N := ⟨a0.toNat, by omega⟩
 by_cases hw : a1 < 1 ∨ (N : Int) ≤ a1 ∨ a2 < 1 ∨ 4096 < a2
 ·
  refine Tk (TS (Lq rfl (YA 0 (len := 3) (e := 3) (sz := 1) (by kernel_rfl) rfl rfl rfl (by omega)) (Lq rfl (Ql (by kernel_rfl) rfl rfl) (Lq rfl (YA 1 (len := 3) (e := 3) (sz := 1) (by kernel_rfl) rfl rfl rfl (by omega)) (Lq rfl (Ql (by kernel_rfl) rfl rfl) (Lq rfl (YA 2 (len := 3) (e := 3) (sz := 1) (by kernel_rfl) rfl rfl rfl (by omega)) ?_))))))
  refine Lq rfl (Ql (by kernel_rfl) rfl rfl) ?_
  refine Le rfl (Ec (Hp.openedNo B N N a1 a2 rfl (by omega) (by omega) hw) Tryz.func16 rfl rfl rfl ?_)
  rintro _ _ ⟨b, rfl, rfl⟩
  try simp only [cA, nA]
  refine Lm rfl rfl (Lq rfl (Qx rfl rfl) (Lq rfl (Qx rfl rfl) (Lq rfl (Qx rfl rfl) (La rfl rfl (La rfl rfl (La rfl rfl (Ld ?_)))))))
  refine Ts (TS (Lm rfl rfl (Lq rfl (Y1 (by kernel_rfl) rfl rfl) (Ld (yQ rfl (Tk ?_))))))
  refine Ts (TS (Lq rfl (YA 0 (len := 3) (e := 3) (sz := 1) (by kernel_rfl) rfl rfl rfl (by omega)) (Lq rfl (Ql (by kernel_rfl) rfl rfl) (Lq rfl (YA 1 (len := 3) (e := 3) (sz := 1) (by kernel_rfl) rfl rfl rfl (by omega)) (Lq rfl (Ql (by kernel_rfl) rfl rfl) (Lq rfl (YA 2 (len := 3) (e := 3) (sz := 1) (by kernel_rfl) rfl rfl rfl (by omega)) ?_))))))
  refine Lq rfl (Ql (by kernel_rfl) rfl rfl) ?_
  refine Le rfl (Ec (Hr.wrong B N a1 a2) Tryz.func25 rfl rfl rfl ?_)
  rintro _ _ ⟨rfl, rfl⟩
  try simp only [cA, nA]
  rw [if_pos (by simpa [wrong8] using hw)]
  refine La rfl rfl (Ld (TS (Lm rfl rfl (Lq rfl (yW rfl rfl) (Lm rfl rfl (zQ (t := 43) rfl rfl ?_))))))
  refine Ls rfl (Ls rfl (Lq rfl (Qp rfl rfl) (Ld (zF rfl (TS (Lm rfl rfl ?_))))))
  refine Lm rfl rfl (Lq rfl (yU rfl rfl) (Lm rfl rfl (zQ (t := 50) rfl rfl (Lm rfl rfl (Lq rfl (Y5 (by kernel_rfl) rfl rfl) (Lq rfl (Qp rfl rfl) (Lm rfl rfl ?_)))))))
  refine zQ (t := 54) rfl rfl (Lm rfl rfl (Lq rfl (yW rfl rfl) (Lq rfl (Qp rfl rfl) (La rfl rfl (Ld (T.ret ?_))))))
  exact ⟨.inl rfl, _, _, res [_] rfl ⟨rvT rfl, trivial⟩, ⟨rfl, rfl⟩, Sa⟩
 obtain ⟨logs, rfl⟩ : ∃ n : Nat, a1 = n := ⟨a1.toNat, by omega⟩
 obtain ⟨fr, rfl⟩ : ∃ n : Nat, a2 = n := ⟨a2.toNat, by omega⟩
 obtain ⟨count, hcnt⟩ : ∃ c, N = logs + c := ⟨N - logs, by omega⟩
 refine Tk (TS (Lq rfl (YA 0 (len := 3) (e := 3) (sz := 1) (by kernel_rfl) rfl rfl rfl (by omega)) (Lq rfl (Ql (by kernel_rfl) rfl rfl) (Lq rfl (YA 1 (len := 3) (e := 3) (sz := 1) (by kernel_rfl) rfl rfl rfl (by omega)) (Lq rfl (Ql (by kernel_rfl) rfl rfl) (Lq rfl (YA 2 (len := 3) (e := 3) (sz := 1) (by kernel_rfl) rfl rfl rfl (by omega)) ?_))))))
 refine Lq rfl (Ql (by kernel_rfl) rfl rfl) ?_
 refine Le rfl (Ec (Hp.opened B N logs count fr N logs fr rfl rfl rfl (by omega) (by omega) hcnt (by omega) (by omega) (by omega)) Tryz.func16 rfl rfl rfl ?_)
 rintro _ _ ⟨b, g, rfl, rfl⟩
 try simp only [cA, nA]
 refine Lm rfl rfl (Lq rfl (Qx rfl rfl) (Lq rfl (Qx rfl rfl) (Lq rfl (Qx rfl rfl) (La rfl rfl (La rfl rfl (La rfl rfl (Ld ?_)))))))
 refine Ts (TS (Lm rfl rfl (Lq rfl (Y1 (by kernel_rfl) rfl rfl) (Ld (yQ rfl (Tk ?_))))))
 refine Ts (TS (Lq rfl (YA 0 (len := 3) (e := 3) (sz := 1) (by kernel_rfl) rfl rfl rfl (by omega)) (Lq rfl (Ql (by kernel_rfl) rfl rfl) (Lq rfl (YA 1 (len := 3) (e := 3) (sz := 1) (by kernel_rfl) rfl rfl rfl (by omega)) (Lq rfl (Ql (by kernel_rfl) rfl rfl) (Lq rfl (YA 2 (len := 3) (e := 3) (sz := 1) (by kernel_rfl) rfl rfl rfl (by omega)) ?_))))))
 refine Lq rfl (Ql (by kernel_rfl) rfl rfl) ?_
 refine Le rfl (Ec (Hr.wrong B N logs fr) Tryz.func25 rfl rfl rfl ?_)
 rintro _ _ ⟨rfl, rfl⟩
 try simp only [cA, nA]
 rw [if_neg (by simpa [wrong8] using hw)]
 refine La rfl rfl (Ld (TS (Lm rfl rfl (Lq rfl (yW rfl rfl) (Lm rfl rfl (yT (t := 43) rfl rfl ?_))))))
 refine Lm rfl rfl (Lq rfl (Y1 (by kernel_rfl) rfl rfl) (Lq rfl (Qp rfl rfl) (Ld (yQ rfl (Tk (TS ?_))))))
 refine Lq rfl (YA 0 (len := 3) (e := 3) (sz := 1) (by kernel_rfl) rfl rfl rfl (by omega)) (Lq rfl (Ql (by kernel_rfl) rfl rfl) (Lq rfl (YA 1 (len := 3) (e := 3) (sz := 1) (by kernel_rfl) rfl rfl rfl (by omega)) (Lq rfl (Ql (by kernel_rfl) rfl rfl) ?_)))
 refine Le rfl (Ec (Hr.new B N logs N logs rfl rfl (by omega) (by omega)) Tryz.func26 rfl rfl rfl ?_)
 rintro _ _ ⟨q0, rfl, rfl⟩
 try simp only [cA, nA]
 rw [show N - logs = count by omega]
 refine Le rfl (El [.int .i64 0, .int .i64 0, .int .i64 0, .slice none 0 0, .slice none 0 0, .slice none 0 0, .int .i64 0, .slice none 0 0] (by unfold zeroB; kernel_rfl) ?_)
 intro g9
 refine L0 rfl (Es [_, _, _, _, _, _, _, _] (by kernel_rfl) rfl rfl rfl rfl (by simp) ?_)
 try simp only [splice, lC, lN, dS, cA, tS, tZ, dZ, nA, aN]
 refine Ld (TS (La rfl rfl (Ld (Ts (TS ?_)))))
 refine Lm rfl rfl (Lq rfl (yI (e := 60) (sz := 9) (by kernel_rfl) rfl) (Lm rfl rfl (Ld (yH ?_))))
 have hP0 : PlayI (newR count (logs * 256)) count (logs * 256) 0 := ⟨RInv.newR count (logs * 256), ⟨Nat.le_refl _, Nat.le_refl _, Nat.le_refl _, Nat.le_refl _⟩, rfl, rfl, Int.le_refl _⟩
 refine zG (fun mz fz lz => ∃ (f0 : Fr) (k K : Nat) (h : HR) (q : HrQ), (k ≤ sc.length ∧ K ≤ count + (count + 2) * k ∧ PlayI h count (logs * 256) k) ∧ mz = sc.length - k ∧ fz = (upd (upd (upd (upd (upd (upd f0 6 (pV g)) 9 (.pointer (some ⟨g9, 0, none⟩))) 10 (.bool true)) 63 (.slice sa sc.length scap)) 64 (.int .i64 sc.length)) 65 (.int .i64 k)) ∧ lz = hpA g b logs count fr K h :: blk g9 (hrC q h) 71 :: hrL q h ++ F) ?_ ?_
 · refine ⟨_, _, ⟨_, 0, count, newR count (logs * 256), q0, ⟨Nat.zero_le _, Nat.le_refl _, hP0⟩, rfl, (updS rfl (updS rfl (updS rfl (updS rfl (updS rfl (updS rfl rfl)))))), rfl⟩, Sa⟩
 rintro mz fz lz ⟨f0, k, K, h, q, ⟨hk, hK, hP⟩, hmz, rfl, rfl⟩
 subst mz
 try simp only [cA, nA]
 have hc64 : count ≤ 64 := by omega
 have hK2 : (count + 2) * k ≤ 66 * 1048576 := Nat.mul_le_mul (by omega) (by omega)
 refine TS (Lq rfl (yM rfl rfl) (Ld (Ts ?_)))
 refine yN rfl (fun hlt => ?_) (fun hlt => ?_)
 ·
  obtain ⟨kb, ko, C, rfl, hro, hC⟩ := hsc.resolve_left (by intro e; rw [e] at hlt; simp at hlt; omega)
  obtain ⟨da, dc, ka, kc, hrd, hdv, hkv⟩ := hC k (by omega)
  have hxl := hdl sc[k] (List.getElem_mem _)
  have hxo := hok sc[k] (List.getElem_mem _)
  have hP2 := hP.step (by omega) (by omega) sc[k]
  refine Tk (Ts (yH (TS (Lq rfl (Qi _ (e := 60) (sz := 9) (by kernel_rfl) rfl rfl rfl (by omega)) (Lq rfl (QL [_, _, _, _, _, _, _, _, _] (by kernel_rfl) rfl hrd) ?_)))))
  refine Le rfl (El [.int .i64 0, .int .i64 0, .int .i64 0, .int .i64 0, .slice none 0 0, .int .i64 0, .slice none 0 0, .int .i64 0, .int .i64 0] (by unfold zeroB; kernel_rfl) ?_)
  intro g12
  refine L0 rfl (Es [_, _, _, _, _, _, _, _, _] (by kernel_rfl) rfl rfl rfl rfl (by simp) ?_)
  try simp only [splice, lC, lN, dS, cA, tS, tZ, dZ, nA, aN]
  refine Ld (TS (Lm rfl rfl (Lq rfl (QL [_, _, _, _, _, _, _, _] (by kernel_rfl) rfl ⟨rfl, rfl, rfl, rfl, rfl, rfl, rfl, rfl, trivial⟩) (Lq rfl (QL [_, _, _, _, _, _, _, _, _] (by kernel_rfl) rfl ⟨rfl, rfl, rfl, rfl, rfl, rfl, rfl, rfl, rfl, trivial⟩) ?_))))
  refine Le rfl (Ec (Hp.step B g b logs count fr K q h k (logs * 256) hP (by omega) (by omega) (by omega) (by omega) sc[k] hxo da dc ka kc hdv hxl) Tryz.func27 rfl rfl rfl ?_)
  rintro _ _ ⟨q1, K1, hK1, rfl, rfl⟩
  try simp only [cA, nA]
  refine Lm rfl rfl (Lq rfl (Qx rfl rfl) (Lq rfl (Qx rfl rfl) ?_))
  refine L0 rfl (Es [_, _, _, _, _, _, _, _] (by kernel_rfl) rfl rfl rfl rfl (by simp) ?_)
  try simp only [splice, lC, lN, dS, cA, tS, tZ, dZ, nA, aN]
  refine La rfl rfl (Ld (TS (Lm rfl rfl (Lq rfl (Y2 rfl) (Ld (yQ rfl ?_))))))
  refine Tk (TR (Lq rfl (Qd rfl rfl (wr64 (by omega) (by omega))) (Lm rfl rfl (Ld ?_))))
  refine ⟨_, ?_, _, ⟨_, k + 1, K1, stepR h sc[k], q1, ⟨by omega, by rw [Nat.mul_add]; omega, hP2⟩, rfl, (updS rfl (updS rfl (updS rfl (updS rfl (updS rfl (updS rfl rfl)))))), rfl⟩, Sa⟩
  omega
 have hHk := hP.k (by omega) (by omega) (by omega)
 have hlen := all_len hP.r.ok
 have hpg := hP.pages
 have hcm := hP.s.c
 refine zB (Ts (zW 10 none (by kernel_rfl) (nB rfl) (by kernel_rfl) (Rq 0 rfl rfl (by kernel_rfl) Sa (Qm rfl) (Rq 2 rfl rfl (by kernel_rfl) Sa (QL [_, _, _, _, _, _, _, _] (by kernel_rfl) rfl ⟨rfl, rfl, rfl, rfl, rfl, rfl, rfl, rfl, trivial⟩) (yK 1 (by kernel_rfl) ?_)))))
 refine z6 rfl rfl (Ec (Hp.all B g b logs count fr K h (by omega)) Tryz.func19 rfl rfl rfl ?_)
 rintro _ _ ⟨L, p1, c1, hL1, hL2, rfl, rfl⟩
 try simp only [cA, nA]
 have hLl : L.length = (allR h).length := by rw [← hL2, List.length_map]
 have hLd : ∀ x ∈ L, x.v.data.length < 2 ^ 32 := fun x hx => by have := all_data hP.r (x := x.v) (by rw [← hL2]; exact List.mem_map_of_mem hx); omega
 refine ⟨Sa, ?_⟩
 refine yK 3 (by kernel_rfl) ?_
 refine zY rfl rfl (by kernel_rfl) (Ec (Hr.all B q h k hHk) Tryz.func29 rfl rfl rfl ?_)
 rintro _ _ ⟨p2, c2, rfl, rfl⟩
 try simp only [cA, nA]
 refine yK 4 (by kernel_rfl) ?_
 refine zY rfl rfl (by kernel_rfl) (Ec (Hp.versions B L (allR h) p1 p2 c1 c2 hL1 (by rw [hLl]; omega) hLd) Tryz.func28 rfl rfl rfl ?_)
 rintro _ _ ⟨rfl, rfl⟩
 try simp only [cA, nA]
 rw [hL2, decide_eq_true rfl]
 refine Rq 5 rfl rfl (by kernel_rfl) (Sr _) (Qm rfl) (YY (t := 84) rfl rfl (Rq 6 rfl rfl (by kernel_rfl) (Sr _) (Qm rfl) (Rq 7 rfl rfl (by kernel_rfl) (Sr _) (QL [_, _, _, _, _, _, _, _] (by kernel_rfl) rfl ⟨rfl, rfl, rfl, rfl, rfl, rfl, rfl, rfl, trivial⟩) (yK 8 (by kernel_rfl) ?_))))
 refine zY rfl rfl (by kernel_rfl) (Ec (Hp.commitsLaw B g b logs count fr (K + count) q h (by omega)) Tryz.func30 rfl rfl rfl ?_)
 rintro _ _ ⟨rfl, rfl⟩
 try simp only [cA, nA]
 refine Rq 9 rfl rfl (by kernel_rfl) (Sr _) (Qp rfl rfl) (Rd0 (by rfl) ?_)
 simp only [dS, dZ, dN]
 refine La rfl rfl (Ld (T.ret ?_))
 exact ⟨.inl rfl, _, _, res [_] rfl ⟨rvT rfl, trivial⟩, ⟨rfl, rfl⟩, Sa⟩
end Go.Proofs.YtiooeiapplnafaaGreatDoor
namespace Go.Proofs.YtiooeiapplnafaaGreatDoor.heapPlays
open Go.ChangeShapes Go.WideShapes Go.ChangeAt Go.RowKit
theorem contract (H : Type) (enc : TypeId × Value → H) (W : World) (base : Nat) (args : Array Value) (ds gs : List (DataW H)) (before : List MemPlace)
    (hval : ∀ (j : Nat) t v, Tryz.f7.params[j]? = some t → args[j]? = some v → Value.okWide Tryz.prog W .any base t v)
    (hW : DataW.Whole enc Tryz.prog Tryz.f7.params.toList Rows.heapPlaysSpec.vars false W args.toList ds gs before) (hk : Rows.uptoSmall H (ds ++ gs) = true) :
    Calls Tryz.prog 7 args W fun e W' => ∃ v, e = .returned v ∧ Rows.heapPlaysSpec.post enc Tryz.prog Tryz.f7 false true false false W args v W' := by
  have hW0 := hW
  obtain ⟨p, q, hA0, hV, rfl, hfz, hnd⟩ := hW
  have hA : DataW.TrodAll enc Tryz.prog W 0 (fun _ => true) true Tryz.f7.params.toList args.toList ds p := hA0
  rw [Tryz.params7] at hA hval
  obtain ⟨v0, v1, d0, d1, p0, p1, rfl, rfl, rfl, h0, h1⟩ := trodAll_two hA
  obtain ⟨rfl, rfl⟩ := trodVars_none hV
  have hbulk := Tryz.upto_bound hk
  rw [List.append_nil] at hbulk
  clear hA0 hV hk
  obtain ⟨oc0, rfl, _, _⟩ := (show ∃ cs, v0 = .agg cs ∧ cs.size = Tryz.prog.cellsOf 64 ∧ Row.okWide Tryz.prog W .any base 64 cs by have := hval 0 64 v0 rfl rfl; simpa only [Value.okWide, Tryz.underlying64] using this)
  obtain ⟨fu0, t0⟩ := h0
  obtain ⟨a0, a1, a2, ho0⟩ := read_arr3 _ _ _ t0
  simp only [Value.cells] at ho0
  obtain rfl : oc0 = #[.int .i64 a0, .int .i64 a1, .int .i64 a2] := by apply Array.toList_inj.1; rw [ho0]
  obtain ⟨sa1, sl1, sc1, rfl⟩ := okWide_slice Tryz.underlying54 (hval 1 54 v1 rfl rfl)
  obtain ⟨fu1, t1⟩ := h1
  obtain ⟨sv1, l1, hc1, hs1, hB1, hL1⟩ := open_slice_R (enc := enc) (P := Tryz.prog) (W := W) (R := OpHR W) (B := fun o => o.data.length + o.keep.length + 2) Tryz.underlying54 (show Tryz.prog.cellsOf 60 = 9 by kernel_rfl) (by omega) (fun n cs y => read_opH n cs y) t1
  simp only [Value.cells, List.cons.injEq, and_true] at hc1
  subst hc1
  dsimp only at hB1 hL1
  rw [bulk_two] at hbulk
  have hok1 := hs1.okH
  refine (Fn.law (Hp.plays _ _ _ _ _ l1 hs1.roLH (by omega) (fun x hx => by have := opH_le hx; omega) hok1)).mono fun e W' ⟨he, hg⟩ => ?_
  subst he
  exact ⟨_, rfl, post_law Tryz.laidOut hW0 rfl rfl 4 Tryz.underlying4 (by kernel_rfl) (by rw [Tryz.params7]; decide +kernel) hg.toBelow⟩
theorem reads (os : Os) {H : Type} (enc : TypeId × Value → H) : ∃ places, DataW.whole enc Tryz.prog ((laidWorld os).forCall (fun _ _ => 0) ⟨#[], #[.agg #[.int .i64 0, .int .i64 0, .int .i64 0], .slice none 0 0], []⟩).memory Tryz.f7.params.toList Rows.heapPlaysSpec.vars false (#[.agg #[.int .i64 0, .int .i64 0, .int .i64 0], .slice none 0 0] : Array Value).toList 8 = some ([.agg [.lit (.int .i64 0), .lit (.int .i64 0), .lit (.int .i64 0)], .nil], [], places) :=
  ⟨[], by kernel_rfl⟩
theorem lifted (os : Os) (started : os.Started) (H : Type) (enc : TypeId × Value → H) (F : Stop.Interp) :
    ReturnsInHanded {} Tryz.checked os 7 .any ((Rows.OpenSpec.upto Rows.heapPlaysSpec).preRow enc Tryz.prog Tryz.f7 Rows.heapPlaysUptoRow.domain false Rows.heapPlaysUptoRow.laid) (((Rows.OpenSpec.upto Rows.heapPlaysSpec).at F).post enc Tryz.prog Tryz.f7 false true false false) := by
  obtain ⟨places, hx⟩ := reads os enc
  refine returnsInHanded_of_row (C := Tryz.checked) (s := Rows.OpenSpec.upto Rows.heapPlaysSpec) Tryz.own started (by kernel_rfl) Tryz.func7
    (witness_row_at (enc := enc) (C := Tryz.checked) false (laidWorld os) #[.agg #[.int .i64 0, .int .i64 0, .int .i64 0], .slice none 0 0] rfl (by kernel_rfl) (by kernel_rfl) (by kernel_rfl)
      (OpenSpec.preRow_of_cond 8 hx (by kernel_rfl) (fun k hk => by cases hk; kernel_rfl) (by kernel_rfl) (laid_met os _))) ?_
  intro W base args ds gs before hval hW _ hcond _ _ _ _
  exact contract H enc W base args ds gs before hval hW (hcond _ rfl)
theorem jA : (Rows.heapPlaysUptoRow.inPlace == Tryz.prog.inPlace 7) = true := by kernel_rfl
theorem jB : (Rows.heapPlaysUptoRow.unfollowed == Tryz.prog.unfollowed 7) = true := by kernel_rfl
theorem jC : (Rows.heapPlaysUptoRow.recurses == Tryz.prog.recurses 7) = true := by kernel_rfl
theorem jD : (Rows.heapPlaysUptoRow.named == Tryz.prog.varsNamed 7) = true := by kernel_rfl
theorem jE : laidOutB Tryz.prog = true := by kernel_rfl
theorem jF : mapsRowed Tryz.prog = true := by kernel_rfl
theorem jG : joinedFacts Tryz.prog 7 Tryz.f7 (Rows.OpenSpec.upto Rows.heapPlaysSpec).bare Rows.heapPlaysUptoRow = true := by
  unfold joinedFacts
  rw [jA, jB, jC, jD, jE, jF]
  kernel_rfl
theorem over : Rows.heapPlaysUptoRow.holds Tryz.pinned (Rows.OpenSpec.upto Rows.heapPlaysSpec) :=
  OpenClaim.holds_of_cond 7 Tryz.f7 rfl rfl rfl rfl rfl rfl rfl ⟨rfl, rfl, rfl, rfl, rfl⟩ rfl rfl rfl rfl rfl (by kernel_rfl) Tryz.func7 jG
    (of_decide_eq_true (by kernel_rfl)) (by unfold Func.isWrapper; first | (rw [if_pos (by decide +kernel)]; kernel_rfl) | (rw [if_neg (by decide +kernel)]; exact ⟨rfl, rfl⟩))
    (fun os started H enc _ F => by rw [OpenClaim.pre_eq_preRow]; exact lifted os started H enc F)
theorem plain (f : FuncId) (fn : Func) (hf : Tryz.pinned.checked.prog.funcNamed "annals/annalslaw08.HeapPlays" = some f) (hfn : Tryz.pinned.checked.prog.funcs[f]? = some fn) :
    true = Tryz.pinned.checked.prog.looks [] ∧ ∀ (j : Nat) t, fn.params[j]? = some t → Tryz.pinned.checked.prog.wantsStandIn t = false := by
  obtain rfl : f = 7 := Option.some.inj ((show Tryz.prog.funcNamed "annals/annalslaw08.HeapPlays" = some 7 by kernel_rfl).symm.trans hf) |>.symm
  obtain rfl : fn = Tryz.f7 := (Option.some.inj (Tryz.func7.symm.trans hfn)).symm
  refine ⟨by kernel_rfl, fun j t ht => ?_⟩
  rw [Tryz.params7] at ht
  have hall : ([64, 54] : List TypeId).all (fun t => !Tryz.prog.wantsStandIn t) = true := by kernel_rfl
  have := List.all_eq_true.1 hall t (by simpa using Array.mem_of_getElem? ht)
  exact (show Tryz.prog.wantsStandIn t = false by simpa using this)
theorem proved : Rows.HeapPlaysUptoCardSaid :=
  Claim7.holds_tied_plain_at .later [] _ _ _ _ over (fun _ h => by cases h) (by kernel_rfl) (fun _ h => by cases h) heapPlaysUpto_row_tie rfl ⟨rfl, rfl⟩ (by kernel_rfl) rfl plain (by kernel_rfl)
end Go.Proofs.YtiooeiapplnafaaGreatDoor.heapPlays
