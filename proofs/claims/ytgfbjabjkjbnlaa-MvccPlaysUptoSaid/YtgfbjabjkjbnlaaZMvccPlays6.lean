/- The law MvccPlays of annalslaw12 holds: for all arguments of bulk at most 1048576 the call returns true and the arguments read as before. Condition: the bound of the second form. -/
import Derived.Test.YtgfbjabjkjbnlaaZMvccPlays5
/- The statement MvccPlays. Conditions: that what is handed in can be read; sizes. -/
set_option linter.unusedSimpArgs false
set_option linter.unusedVariables false
namespace Go.Proofs.Ytgfbjabjkjbnlaa
open Go.RowKit

theorem check_bad {m : Mg} {t : Int} (h : (checkM m t).2 ≠ 0) : (checkM m t).1 = 0 := by
  unfold checkM at h ⊢
  cases hf : findT m.T t with
  | none => rfl
  | some r =>
    rw [hf] at h
    dsimp only at h ⊢
    by_cases c1 : r.2.ks = []
    · rw [if_pos c1] at h; exact absurd rfl h
    · rw [if_neg c1] at h ⊢
      by_cases c2 : clashB m.W r.2.snap r.2.ks = true
      · rw [if_pos c2]
      · rw [if_neg c2] at h ⊢
        by_cases c3 : 1099511627775 < max m.now (m.last + 1)
        · rw [if_pos c3]
        · rw [if_neg c3] at h; exact absurd rfl h
theorem sim_commit2 {m m' : Mg} {r : Rm} {t : Int} (h : Sim m r) (hI : MInv m) (hc : commitP m t m') : (rCommit r t).2 = checkM m t := by
  rw [(h.commit hI hc).2]
  by_cases hb : (checkM m t).2 ≠ 0 ∧ (checkM m t).2 ≠ 120
  · rw [if_pos hb]
    have := check_bad hb.1
    rw [← this]
  · rw [if_neg hb]

theorem RmOk.mono {r : Rm} {Q : List Kq} {N N' : Nat} (h : RmOk r Q N) (hN : N ≤ N') : RmOk r Q N' := ⟨fun x hx => ⟨(h.T x hx).1, by have := (h.T x hx).2; omega⟩, fun x hx => ⟨(h.H x hx).1, by have := (h.H x hx).2; omega⟩⟩
theorem RmOk.begin {r : Rm} {Q : List Kq} {N : Nat} (h : RmOk r Q N) (a b c : Int) : RmOk { r with begun := a, T := r.T ++ [⟨b, c, ⟨none, 0, []⟩⟩] } Q N := ⟨fun x hx => by
  rcases List.mem_append.1 hx with hx | hx
  · exact h.T x hx
  · simp at hx; subst hx; exact ⟨.inl rfl, Nat.zero_le _⟩, h.H⟩
theorem RmOk.write {r r' : Rm} {Q Q' : List Kq} {N : Nat} {t : Int} {ks : List Str} (h : RmOk r Q N) (hw : rWrite r Q t ks r' Q') : RmOk r' Q' (N + ks.length) ∧ r'.T.length = r.T.length ∧ r'.H = r.H := by
  unfold rWrite at hw
  split at hw
  · obtain ⟨rfl, rfl⟩ := hw
    exact ⟨h.mono (Nat.le_add_right _ _), rfl, rfl⟩
  · obtain ⟨i, x, q, e1, e2, e3, e4, rfl, rfl⟩ := hw
    have hx := h.T x (List.mem_of_getElem? e2)
    refine ⟨⟨fun y hy => ?_, fun y hy => ?_⟩, by simp, rfl⟩
    · rcases mem_set_of' hy with rfl | hy
      · exact ⟨e4, by dsimp only; rw [e3, List.length_append]; omega⟩
      · have := h.T y hy
        exact ⟨this.1.mono fun z hz => List.mem_append_left _ hz, by omega⟩
    · have := h.H y hy
      exact ⟨this.1.mono fun z hz => List.mem_append_left _ hz, by omega⟩
theorem RmOk.erase {r : Rm} {Q : List Kq} {N : Nat} (h : RmOk r Q N) (i : Nat) : RmOk { r with T := r.T.eraseIdx i } Q N := ⟨fun x hx => h.T x (List.mem_of_mem_eraseIdx hx), h.H⟩
theorem RmOk.commit {r : Rm} {Q : List Kq} {N : Nat} (h : RmOk r Q N) (t : Int) : RmOk (rCommit r t).1 Q N ∧ (rCommit r t).1.T.length ≤ r.T.length ∧ (rCommit r t).1.H.length ≤ r.H.length + 1 := by
  unfold rCommit
  split
  · exact ⟨h, Nat.le_refl _, Nat.le_succ _⟩
  · split
    · exact ⟨h, Nat.le_refl _, Nat.le_succ _⟩
    · rename_i x hx
      have hxk := h.T x (List.mem_of_getElem? hx)
      split
      · refine ⟨⟨fun y hy => h.T y (List.mem_of_mem_eraseIdx hy), fun y hy => ?_⟩, List.length_eraseIdx_le .., by simp⟩
        rcases List.mem_append.1 hy with hy | hy
        · exact h.H y hy
        · simp at hy; subst hy; exact hxk
      · exact ⟨h.erase _, List.length_eraseIdx_le .., Nat.le_succ _⟩
structure PlayOk (m : Mg) (r : Rm) (Q : List Kq) (N K : Nat) : Prop where
  inv : MInv m
  sim : Sim m r
  ok : RmOk r Q N
  nT : r.T.length ≤ K
  nH : r.H.length ≤ K
  beg : m.begun ≤ 4611686018427387904 + K
def PlayR (g N K : Nat) (v : Value) (l : List Assn) : Prop := ∃ m' r' Q' p n c p' n' c', PlayOk m' r' Q' N K ∧ r'.T.length = n ∧ r'.H.length = n' ∧ v = .tuple #[rmV r' p n c p' n' c', .bool true] ∧ l = [mgB g m', actA m', wrA m', ksA m'.T, rtR p n c r'.T, rhR p' n' c' r'.H, poS Q']

set_option maxHeartbeats 16000000 in
set_option maxRecDepth 100000 in
theorem Mw.step (B : Base) (g : Nat) (m : Mg) (r : Rm) (Q : List Kq) (N K : Nat) (h : PlayOk m r Q N K) (hK : K < 2 ^ 30) (hN : N < 2 ^ 30) (pt : Option Addr) (nt ct : Nat) (ph : Option Addr) (nh ch : Nat) (hnt : r.T.length = nt) (hnh : r.H.length = nh) (o : OpM) (da : Option Addr) (dc : Nat) (hd : RoS B (.slice da o.keys.length dc) (o.keys.map kT)) (hdl : o.keys.length < 2 ^ 30) :
  Fn Try.prog B 21 #[.pointer (some ⟨g, 0, none⟩), rmV r pt nt ct ph nh ch, .agg #[.int .i64 o.kind, .int .i64 o.txn, .slice da o.keys.length dc, .int .i64 o.n]] [mgB g m, actA m, wrA m, ksA m.T, rtR pt nt ct r.T, rhR ph nh ch r.H, poS Q] (PlayR g (N + o.keys.length) (K + 1)) := by
 have hI := h.inv
 have hS := h.sim
 have hn1 : nt ≤ K := by rw [← hnt]; exact h.nT
 have hn2 : nh ≤ K := by rw [← hnh]; exact h.nH
 have hbg := h.beg
 have hb0 := hI.b0
 have hsb := hS.begun
 have hln : 0 ≤ r.last ∧ r.last ≤ 1099511627776 := by rw [← hS.last]; exact hI.l0
 have hnn : 0 ≤ r.now ∧ r.now ≤ 1099511627776 := by rw [← hS.now]; exact hI.n0
 have hokN := h.ok.mono (Nat.le_add_right N o.keys.length)
 refine Fn.enter3 182 Try.func21 rfl rfl (Nat.le_of_ble_eq_true rfl) (fun F => ?_)
 try simp only [List.cons_append, List.nil_append]
 refine T.seq ?_
 refine T.region ?_
 refine LW.e rfl (Ef.box [_, _, _, _, _] rfl rfl ?_)
 intro g4
 refine LW.e rfl (Ef.box [_, _, _, _] rfl rfl ?_)
 intro g5
 refine LW.e rfl (Ef.alloc [.int .i64 0, .int .i64 0, .int .i64 0, .slice none 0 0, .slice none 0 0] (by unfold zeroB; kernel_rfl) ?_)
 intro g6
 refine LW.q rfl (Qt.assign rfl) ?_
 refine LW.done ?_
 refine T.seq ?_
 refine T.seq ?_
 refine T.region ?_
 refine LW.q rfl (Qt.fieldAddr0 (by kernel_rfl) rfl) ?_
 first | refine LW.q rfl (Qt.load (by kernel_rfl) rfl rfl) ?_ | refine LW.q rfl (Qt.load (by kernel_rfl) rfl (map_at _ _ _ (by omega))) ?_ | refine LW.q rfl (Qt.load (by kernel_rfl) rfl (flat_cell0 _ _ _ (by intros; rfl) _ (by omega) (by rfl))) ?_ | refine LW.q rfl (Qt.load (by kernel_rfl) rfl (flat_cell _ _ _ (by intros; rfl) _ _ (by omega) (by rfl))) ?_ | refine LW.q rfl (Qt.load (by kernel_rfl) rfl (bytes_at _ _ (by omega))) ?_
 refine LW.done ?_
 refine T.block ?_
 refine T.seq ?_
 refine T.region ?_
 refine LW.q rfl (Qt.eql rfl rfl) ?_
 refine LW.q rfl (Qt.assign rfl) ?_
 refine LW.done ?_
 refine T.condP rfl (fun k0 => ?_) (fun k0 => ?_)
 ·
  refine T.seq ?_
  refine T.region ?_
  first | refine LW.q rfl (Qt.loadAgg [_, _, _, _, _] (by kernel_rfl) rfl ⟨rfl, rfl, rfl, rfl, rfl, trivial⟩) ?_ | refine LW.q rfl (Qt.loadAgg [_, _, _, _, _] (by kernel_rfl) rfl (by exact rdl_flat _ _ _ (by intros; rfl) _ (by omega))) ?_
  refine LW.e rfl (Ef.call (Mw.begin B r pt nt ct ph nh ch hnt (by omega) (by omega)) Try.func24 rfl rfl rfl ?_)
  rintro _ _ ⟨p1, c1, rfl, rfl⟩
  try simp only [List.cons_append, List.nil_append]
  refine LW.e0 rfl (Ef.store [_, _, _, _, _] (by kernel_rfl) rfl rfl rfl rfl (by simp) ?_)
  try simp only [splice, List.length_cons, List.length_nil, List.drop_succ_cons, List.cons_append, List.take_succ_cons, List.take_zero, List.drop_zero, List.nil_append, List.append_nil]
  refine LW.done ?_
  refine T.seq ?_
  refine T.region ?_
  refine LW.q rfl (Qt.move rfl) ?_
  refine LW.e rfl (Ef.call (Mv.beginP B g m hI (by omega)) Try.func10 rfl rfl rfl ?_)
  rintro _ _ ⟨m1, x1, hb1, rfl, rfl⟩
  try simp only [List.cons_append, List.nil_append]
  rw [hS.begun, hS.last]
  refine LW.q rfl (Qt.move rfl) ?_
  refine LW.q rfl (Qt.extr rfl rfl) ?_
  refine LW.q rfl (Qt.extr rfl rfl) ?_
  refine LW.q rfl (Qt.assign rfl) ?_
  refine LW.q rfl (Qt.assign rfl) ?_
  refine LW.done ?_
  refine T.seq ?_
  refine T.drawEx 12 g6 (by kernel_rfl) (Nat.le_of_ble_eq_true rfl) (by kernel_rfl) ?_
  first | refine RW.q 0 rfl rfl (by kernel_rfl) Sub.any (Qt.loadAgg [_, _, _, _, _] (by kernel_rfl) rfl ⟨rfl, rfl, rfl, rfl, rfl, trivial⟩) ?_ | refine RW.q 0 rfl rfl (by kernel_rfl) Sub.any (Qt.loadAgg [_, _, _, _, _] (by kernel_rfl) rfl (by exact rdl_flat _ _ _ (by intros; rfl) _ (by omega))) ?_
  refine RW.q 1 rfl rfl (by kernel_rfl) Sub.any (Qt.move rfl) ?_
  refine RW.q 2 rfl rfl (by kernel_rfl) Sub.any (Qt.fieldAddr (off := 2) (by kernel_rfl) rfl) ?_
  first | refine RW.q 3 rfl rfl (by kernel_rfl) Sub.any (Qt.load (by kernel_rfl) rfl rfl) ?_ | refine RW.q 3 rfl rfl (by kernel_rfl) Sub.any (Qt.load (by kernel_rfl) rfl (map_at _ _ _ (by omega))) ?_ | refine RW.q 3 rfl rfl (by kernel_rfl) Sub.any (Qt.load (by kernel_rfl) rfl (flat_cell0 _ _ _ (by intros; rfl) _ (by omega) (by rfl))) ?_ | refine RW.q 3 rfl rfl (by kernel_rfl) Sub.any (Qt.load (by kernel_rfl) rfl (flat_cell _ _ _ (by intros; rfl) _ _ (by omega) (by rfl))) ?_ | refine RW.q 3 rfl rfl (by kernel_rfl) Sub.any (Qt.load (by kernel_rfl) rfl (bytes_at _ _ (by omega))) ?_
  refine RW.q 4 rfl rfl (by kernel_rfl) Sub.any (Qt.eql rfl rfl) ?_
  refine RW.q 5 rfl rfl (by kernel_rfl) Sub.any (Qt.move rfl) ?_
  first | refine RW.gT (t := 42) rfl rfl ?_ | refine RW.gT (t := 42) rfl (decide_eq_true (rfl)) ?_ | refine RW.gT (t := 42) rfl (rfl) ?_
  refine RW.q 6 rfl rfl (by kernel_rfl) Sub.any (Qt.move rfl) ?_
  refine RW.q 7 rfl rfl (by kernel_rfl) Sub.any (Qt.fieldAddr (off := 1) (by kernel_rfl) rfl) ?_
  first | refine RW.q 8 rfl rfl (by kernel_rfl) Sub.any (Qt.load (by kernel_rfl) rfl rfl) ?_ | refine RW.q 8 rfl rfl (by kernel_rfl) Sub.any (Qt.load (by kernel_rfl) rfl (map_at _ _ _ (by omega))) ?_ | refine RW.q 8 rfl rfl (by kernel_rfl) Sub.any (Qt.load (by kernel_rfl) rfl (flat_cell0 _ _ _ (by intros; rfl) _ (by omega) (by rfl))) ?_ | refine RW.q 8 rfl rfl (by kernel_rfl) Sub.any (Qt.load (by kernel_rfl) rfl (flat_cell _ _ _ (by intros; rfl) _ _ (by omega) (by rfl))) ?_ | refine RW.q 8 rfl rfl (by kernel_rfl) Sub.any (Qt.load (by kernel_rfl) rfl (bytes_at _ _ (by omega))) ?_
  refine RW.q 9 rfl rfl (by kernel_rfl) Sub.any (Qt.eql rfl rfl) ?_
  refine RW.q 10 rfl rfl (by kernel_rfl) Sub.any (Qt.pick rfl rfl) ?_
  refine RW.one 11 (by kernel_rfl) ?_
  refine RO.eS0 rfl rfl (Ef.store [_, _, _, _, _] (by kernel_rfl) rfl rfl rfl rfl (by simp) ?_)
  try simp only [splice, List.length_cons, List.length_nil, List.drop_succ_cons, List.cons_append, List.take_succ_cons, List.take_zero, List.drop_zero, List.nil_append, List.append_nil]
  refine ⟨Sub.any, ?_⟩
  refine RW.done (by rfl) ?_
  simp only [List.drop_succ_cons, List.drop_zero, List.drop_nil]
  refine LW.q rfl (Qt.assign rfl) ?_
  refine LW.done ?_
  refine T.ret ?_
  exact ⟨.inl rfl, _, _, res [_, _] rfl ⟨rvA [_, _, _, _, _] (by kernel_rfl) rfl ⟨rfl, rfl, rfl, rfl, rfl, trivial⟩, rvT rfl, trivial⟩, ⟨m1, { r with begun := r.begun + 1, T := r.T ++ [⟨r.begun + 1, r.last, ⟨none, 0, []⟩⟩] }, Q, p1, nt + 1, c1, ph, nh, ch, ⟨hb1.inv, hS.begin hb1, hokN.begin _ _ _, by simp; omega, by dsimp only; omega, by rw [hb1.begun]; omega⟩, by simp [hnt], hnh, by simp [outV], rfl⟩, Sub.any⟩
 ·
  refine T.seq ?_
  refine T.region ?_
  refine LW.q rfl (Qt.eql rfl rfl) ?_
  refine LW.q rfl (Qt.assign rfl) ?_
  refine LW.done ?_
  refine T.condP rfl (fun k1 => ?_) (fun k1 => ?_)
  ·
   refine T.seq ?_
   refine T.region ?_
   first | refine LW.q rfl (Qt.loadAgg [_, _, _, _, _] (by kernel_rfl) rfl ⟨rfl, rfl, rfl, rfl, rfl, trivial⟩) ?_ | refine LW.q rfl (Qt.loadAgg [_, _, _, _, _] (by kernel_rfl) rfl (by exact rdl_flat _ _ _ (by intros; rfl) _ (by omega))) ?_
   refine LW.q rfl (Qt.fieldAddr (off := 1) (by kernel_rfl) rfl) ?_
   first | refine LW.q rfl (Qt.load (by kernel_rfl) rfl rfl) ?_ | refine LW.q rfl (Qt.load (by kernel_rfl) rfl (map_at _ _ _ (by omega))) ?_ | refine LW.q rfl (Qt.load (by kernel_rfl) rfl (flat_cell0 _ _ _ (by intros; rfl) _ (by omega) (by rfl))) ?_ | refine LW.q rfl (Qt.load (by kernel_rfl) rfl (flat_cell _ _ _ (by intros; rfl) _ _ (by omega) (by rfl))) ?_ | refine LW.q rfl (Qt.load (by kernel_rfl) rfl (bytes_at _ _ (by omega))) ?_
   refine LW.q rfl (Qt.fieldAddr (off := 2) (by kernel_rfl) rfl) ?_
   first | refine LW.q rfl (Qt.load (by kernel_rfl) rfl rfl) ?_ | refine LW.q rfl (Qt.load (by kernel_rfl) rfl (map_at _ _ _ (by omega))) ?_ | refine LW.q rfl (Qt.load (by kernel_rfl) rfl (flat_cell0 _ _ _ (by intros; rfl) _ (by omega) (by rfl))) ?_ | refine LW.q rfl (Qt.load (by kernel_rfl) rfl (flat_cell _ _ _ (by intros; rfl) _ _ (by omega) (by rfl))) ?_ | refine LW.q rfl (Qt.load (by kernel_rfl) rfl (bytes_at _ _ (by omega))) ?_
   refine LW.e rfl (Ef.call (Mw.write B [] r Q pt nt ct ph nh ch o.txn da o.keys.length dc o.keys (hd.rd []) rfl (by omega) hnt (by omega) (fun x hx => ⟨(h.ok.T x hx).1, by have := (h.ok.T x hx).2; omega⟩)) Try.func25 rfl rfl rfl ?_)
   rintro _ _ ⟨r1, Q1, p1, c1, hw, rfl, rfl⟩
   try simp only [List.cons_append, List.nil_append]
   refine LW.q rfl (Qt.move rfl) ?_
   refine LW.q rfl (Qt.extr rfl rfl) ?_
   refine LW.q rfl (Qt.extr rfl rfl) ?_
   refine LW.e rfl (Ef.alloc [.int .i64 0, .int .i64 0, .int .i64 0, .slice none 0 0, .slice none 0 0] (by unfold zeroB; kernel_rfl) ?_)
   intro g10
   refine LW.e0 rfl (Ef.store [_, _, _, _, _] (by kernel_rfl) rfl rfl rfl rfl (by simp) ?_)
   try simp only [splice, List.length_cons, List.length_nil, List.drop_succ_cons, List.cons_append, List.take_succ_cons, List.take_zero, List.drop_zero, List.nil_append, List.append_nil]
   refine LW.q rfl (Qt.assign rfl) ?_
   refine LW.done ?_
   refine T.seq ?_
   obtain ⟨hs1, hcode⟩ := hS.write hw
   obtain ⟨hok1, hl1, hH1⟩ := h.ok.write hw
   have hbw := write_begun m o.txn o.keys
   rw [← hcode]
   refine T.draw 10 ([blk g10 (rmL r1 p1 nt c1 ph nh ch) 55, blk g5 [.int .i64 o.kind, .int .i64 o.txn, .slice da o.keys.length dc, .int .i64 o.n] 30]) (by kernel_rfl) (Nat.le_of_ble_eq_true rfl) (by kernel_rfl) ?_
   first | refine RW.q 0 rfl rfl (by kernel_rfl) Sub.any (Qt.loadAgg [_, _, _, _, _] (by kernel_rfl) rfl ⟨rfl, rfl, rfl, rfl, rfl, trivial⟩) ?_ | refine RW.q 0 rfl rfl (by kernel_rfl) Sub.any (Qt.loadAgg [_, _, _, _, _] (by kernel_rfl) rfl (by exact rdl_flat _ _ _ (by intros; rfl) _ (by omega))) ?_
   refine RW.q 1 rfl rfl (by kernel_rfl) Sub.any (Qt.move rfl) ?_
   refine RW.q 2 rfl rfl (by kernel_rfl) Sub.any (Qt.fieldAddr (off := 1) (by kernel_rfl) rfl) ?_
   first | refine RW.q 3 rfl rfl (by kernel_rfl) Sub.any (Qt.load (by kernel_rfl) rfl rfl) ?_ | refine RW.q 3 rfl rfl (by kernel_rfl) Sub.any (Qt.load (by kernel_rfl) rfl (map_at _ _ _ (by omega))) ?_ | refine RW.q 3 rfl rfl (by kernel_rfl) Sub.any (Qt.load (by kernel_rfl) rfl (flat_cell0 _ _ _ (by intros; rfl) _ (by omega) (by rfl))) ?_ | refine RW.q 3 rfl rfl (by kernel_rfl) Sub.any (Qt.load (by kernel_rfl) rfl (flat_cell _ _ _ (by intros; rfl) _ _ (by omega) (by rfl))) ?_ | refine RW.q 3 rfl rfl (by kernel_rfl) Sub.any (Qt.load (by kernel_rfl) rfl (bytes_at _ _ (by omega))) ?_
   refine RW.q 4 rfl rfl (by kernel_rfl) Sub.any (Qt.fieldAddr (off := 2) (by kernel_rfl) rfl) ?_
   first | refine RW.q 5 rfl rfl (by kernel_rfl) Sub.any (Qt.load (by kernel_rfl) rfl rfl) ?_ | refine RW.q 5 rfl rfl (by kernel_rfl) Sub.any (Qt.load (by kernel_rfl) rfl (map_at _ _ _ (by omega))) ?_ | refine RW.q 5 rfl rfl (by kernel_rfl) Sub.any (Qt.load (by kernel_rfl) rfl (flat_cell0 _ _ _ (by intros; rfl) _ (by omega) (by rfl))) ?_ | refine RW.q 5 rfl rfl (by kernel_rfl) Sub.any (Qt.load (by kernel_rfl) rfl (flat_cell _ _ _ (by intros; rfl) _ _ (by omega) (by rfl))) ?_ | refine RW.q 5 rfl rfl (by kernel_rfl) Sub.any (Qt.load (by kernel_rfl) rfl (bytes_at _ _ (by omega))) ?_
   refine RW.q 7 rfl rfl (by kernel_rfl) Sub.any (Qt.move rfl) ?_
   refine RW.one 6 (by kernel_rfl) ?_
   refine RO.eS rfl rfl (Ef.call (Mv.writeI B [] g m o.txn da o.keys.length dc o.keys hI (hd.rd _) rfl (by omega)) Try.func11 rfl rfl rfl ?_)
   rintro _ _ ⟨m1, hm1, hI1, rfl, rfl⟩
   try simp only [List.cons_append, List.nil_append]
   refine ⟨Sub.any, ?_⟩
   refine RW.q 8 rfl rfl (by kernel_rfl) Sub.any (Qt.eql rfl rfl) ?_
   refine RW.one 9 (by kernel_rfl) ?_
   refine RO.eS0 rfl rfl (Ef.store [_, _, _, _, _] (by kernel_rfl) rfl rfl rfl rfl (by simp) ?_)
   try simp only [splice, List.length_cons, List.length_nil, List.drop_succ_cons, List.cons_append, List.take_succ_cons, List.take_zero, List.drop_zero, List.nil_append, List.append_nil]
   refine ⟨Sub.any, ?_⟩
   refine RW.done (by rfl) ?_
   simp only [List.drop_succ_cons, List.drop_zero, List.drop_nil]
   refine LW.q rfl (Qt.assign rfl) ?_
   refine LW.done ?_
   rw [hm1] at hs1 hbw
   refine T.ret ?_
   exact ⟨.inl rfl, _, _, res [_, _] rfl ⟨rvA [_, _, _, _, _] (by kernel_rfl) rfl ⟨rfl, rfl, rfl, rfl, rfl, trivial⟩, rvT rfl, trivial⟩, ⟨m1, r1, Q1, p1, nt, c1, ph, nh, ch, ⟨hI1, hs1, hok1, by omega, by rw [hH1]; omega, by rw [hbw.1]; omega⟩, by omega, by rw [hH1]; exact hnh, by simp [outV], by rw [hH1]⟩, Sub.any⟩
  ·
   refine T.seq ?_
   refine T.region ?_
   refine LW.q rfl (Qt.eql rfl rfl) ?_
   refine LW.q rfl (Qt.assign rfl) ?_
   refine LW.done ?_
   refine T.condP rfl (fun k2 => ?_) (fun k2 => ?_)
   ·
    have hck := sim_check hS hI o.txn
    obtain ⟨⟨st, cd⟩, hst⟩ : ∃ q, checkM m o.txn = q := ⟨_, rfl⟩
    refine T.seq ?_
    refine T.region ?_
    refine LW.q rfl (Qt.move rfl) ?_
    refine LW.q rfl (Qt.fieldAddr (off := 1) (by kernel_rfl) rfl) ?_
    first | refine LW.q rfl (Qt.load (by kernel_rfl) rfl rfl) ?_ | refine LW.q rfl (Qt.load (by kernel_rfl) rfl (map_at _ _ _ (by omega))) ?_ | refine LW.q rfl (Qt.load (by kernel_rfl) rfl (flat_cell0 _ _ _ (by intros; rfl) _ (by omega) (by rfl))) ?_ | refine LW.q rfl (Qt.load (by kernel_rfl) rfl (flat_cell _ _ _ (by intros; rfl) _ _ (by omega) (by rfl))) ?_ | refine LW.q rfl (Qt.load (by kernel_rfl) rfl (bytes_at _ _ (by omega))) ?_
    refine LW.e rfl (Ef.call (Mv.check B g m o.txn hI.l0 hI.n0) Try.func23 rfl rfl rfl ?_)
    rintro _ _ ⟨rfl, rfl⟩
    try simp only [List.cons_append, List.nil_append]
    rw [show (checkM m o.txn).1 = st by rw [hst], show (checkM m o.txn).2 = cd by rw [hst]]
    refine LW.q rfl (Qt.move rfl) ?_
    refine LW.q rfl (Qt.extr rfl rfl) ?_
    refine LW.q rfl (Qt.extr rfl rfl) ?_
    refine LW.q rfl (Qt.assign rfl) ?_
    refine LW.q rfl (Qt.assign rfl) ?_
    refine LW.done ?_
    refine T.seq ?_
    refine T.region ?_
    first | refine LW.q rfl (Qt.loadAgg [_, _, _, _, _] (by kernel_rfl) rfl ⟨rfl, rfl, rfl, rfl, rfl, trivial⟩) ?_ | refine LW.q rfl (Qt.loadAgg [_, _, _, _, _] (by kernel_rfl) rfl (by exact rdl_flat _ _ _ (by intros; rfl) _ (by omega))) ?_
    refine LW.q rfl (Qt.fieldAddr (off := 1) (by kernel_rfl) rfl) ?_
    first | refine LW.q rfl (Qt.load (by kernel_rfl) rfl rfl) ?_ | refine LW.q rfl (Qt.load (by kernel_rfl) rfl (map_at _ _ _ (by omega))) ?_ | refine LW.q rfl (Qt.load (by kernel_rfl) rfl (flat_cell0 _ _ _ (by intros; rfl) _ (by omega) (by rfl))) ?_ | refine LW.q rfl (Qt.load (by kernel_rfl) rfl (flat_cell _ _ _ (by intros; rfl) _ _ (by omega) (by rfl))) ?_ | refine LW.q rfl (Qt.load (by kernel_rfl) rfl (bytes_at _ _ (by omega))) ?_
    refine LW.e rfl (Ef.call (Mw.check B r Q N pt nt ct ph nh ch o.txn hnt (by omega) hnh (by omega) h.ok (by omega) hln hnn) Try.func26 rfl rfl rfl ?_)
    rintro _ _ ⟨rfl, rfl⟩
    try simp only [List.cons_append, List.nil_append]
    rw [show (rCheck r o.txn).1 = st by rw [← hck, hst], show (rCheck r o.txn).2 = cd by rw [← hck, hst]]
    refine LW.q rfl (Qt.move rfl) ?_
    refine LW.q rfl (Qt.extr rfl rfl) ?_
    refine LW.q rfl (Qt.extr rfl rfl) ?_
    refine LW.q rfl (Qt.assign rfl) ?_
    refine LW.q rfl (Qt.assign rfl) ?_
    refine LW.done ?_
    refine T.seq ?_
    refine T.region ?_
    first | refine LW.q rfl (Qt.loadAgg [_, _, _, _, _] (by kernel_rfl) rfl ⟨rfl, rfl, rfl, rfl, rfl, trivial⟩) ?_ | refine LW.q rfl (Qt.loadAgg [_, _, _, _, _] (by kernel_rfl) rfl (by exact rdl_flat _ _ _ (by intros; rfl) _ (by omega))) ?_
    refine LW.q rfl (Qt.fieldAddr (off := 1) (by kernel_rfl) rfl) ?_
    first | refine LW.q rfl (Qt.load (by kernel_rfl) rfl rfl) ?_ | refine LW.q rfl (Qt.load (by kernel_rfl) rfl (map_at _ _ _ (by omega))) ?_ | refine LW.q rfl (Qt.load (by kernel_rfl) rfl (flat_cell0 _ _ _ (by intros; rfl) _ (by omega) (by rfl))) ?_ | refine LW.q rfl (Qt.load (by kernel_rfl) rfl (flat_cell _ _ _ (by intros; rfl) _ _ (by omega) (by rfl))) ?_ | refine LW.q rfl (Qt.load (by kernel_rfl) rfl (bytes_at _ _ (by omega))) ?_
    refine LW.e rfl (Ef.call (Mw.commit B r Q N pt nt ct ph nh ch o.txn hnt (by omega) hnh (by omega) h.ok (by omega) hln hnn) Try.func27 rfl rfl rfl ?_)
    rintro _ _ ⟨p1, n1, c1, p2, n2, c2, hl1, hl2, rfl, rfl⟩
    try simp only [List.cons_append, List.nil_append]
    refine LW.q rfl (Qt.move rfl) ?_
    refine LW.q rfl (Qt.extr rfl rfl) ?_
    refine LW.q rfl (Qt.extr rfl rfl) ?_
    refine LW.q rfl (Qt.extr rfl rfl) ?_
    refine LW.e rfl (Ef.alloc [.int .i64 0, .int .i64 0, .int .i64 0, .slice none 0 0, .slice none 0 0] (by unfold zeroB; kernel_rfl) ?_)
    intro g16
    refine LW.e0 rfl (Ef.store [_, _, _, _, _] (by kernel_rfl) rfl rfl rfl rfl (by simp) ?_)
    try simp only [splice, List.length_cons, List.length_nil, List.drop_succ_cons, List.cons_append, List.take_succ_cons, List.take_zero, List.drop_zero, List.nil_append, List.append_nil]
    refine LW.q rfl (Qt.assign rfl) ?_
    refine LW.q rfl (Qt.assign rfl) ?_
    refine LW.done ?_
    refine T.seq ?_
    refine T.region ?_
    refine LW.q rfl (Qt.move rfl) ?_
    refine LW.q rfl (Qt.fieldAddr (off := 1) (by kernel_rfl) rfl) ?_
    first | refine LW.q rfl (Qt.load (by kernel_rfl) rfl rfl) ?_ | refine LW.q rfl (Qt.load (by kernel_rfl) rfl (map_at _ _ _ (by omega))) ?_ | refine LW.q rfl (Qt.load (by kernel_rfl) rfl (flat_cell0 _ _ _ (by intros; rfl) _ (by omega) (by rfl))) ?_ | refine LW.q rfl (Qt.load (by kernel_rfl) rfl (flat_cell _ _ _ (by intros; rfl) _ _ (by omega) (by rfl))) ?_ | refine LW.q rfl (Qt.load (by kernel_rfl) rfl (bytes_at _ _ (by omega))) ?_
    refine LW.e rfl (Ef.call (Mv.commitI B g m o.txn hI) Try.func13 rfl rfl rfl ?_)
    rintro _ _ ⟨m1, hm1, hI1, rfl, rfl⟩
    try simp only [List.cons_append, List.nil_append]
    have hc2 := sim_commit2 hS hI hm1
    have hs1 := (hS.commit hI hm1).1
    rw [show (checkM m o.txn).1 = st by rw [hst], show (checkM m o.txn).2 = cd by rw [hst], show (rCommit r o.txn).2.1 = st by rw [hc2, hst], show (rCommit r o.txn).2.2 = cd by rw [hc2, hst]]
    refine LW.q rfl (Qt.move rfl) ?_
    refine LW.q rfl (Qt.extr rfl rfl) ?_
    refine LW.q rfl (Qt.extr rfl rfl) ?_
    refine LW.q rfl (Qt.assign rfl) ?_
    refine LW.q rfl (Qt.assign rfl) ?_
    refine LW.done ?_
    refine T.seq ?_
    refine T.region ?_
    first | refine LW.q rfl (Qt.loadAgg [_, _, _, _, _] (by kernel_rfl) rfl ⟨rfl, rfl, rfl, rfl, rfl, trivial⟩) ?_ | refine LW.q rfl (Qt.loadAgg [_, _, _, _, _] (by kernel_rfl) rfl (by exact rdl_flat _ _ _ (by intros; rfl) _ (by omega))) ?_
    refine LW.q rfl (Qt.move rfl) ?_
    refine LW.q rfl (Qt.move rfl) ?_
    refine LW.q rfl (Qt.eql rfl rfl) ?_
    refine LW.q rfl (Qt.move rfl) ?_
    obtain ⟨hok1, hT1, hH1⟩ := hokN.commit o.txn
    have hbc := commit_begun hI hm1
    first | refine LW.gT (t := 103) rfl rfl ?_ | refine LW.gT (t := 103) rfl (decide_eq_true (rfl)) ?_ | refine LW.gT (t := 103) rfl (rfl) ?_
    refine LW.q rfl (Qt.move rfl) ?_
    refine LW.q rfl (Qt.move rfl) ?_
    refine LW.q rfl (Qt.eql rfl rfl) ?_
    refine LW.q rfl (Qt.pick rfl rfl) ?_
    refine LW.q rfl (Qt.move rfl) ?_
    first | refine LW.gT (t := 108) rfl rfl ?_ | refine LW.gT (t := 108) rfl (decide_eq_true (rfl)) ?_ | refine LW.gT (t := 108) rfl (rfl) ?_
    refine LW.q rfl (Qt.move rfl) ?_
    refine LW.q rfl (Qt.move rfl) ?_
    refine LW.q rfl (Qt.eql rfl rfl) ?_
    refine LW.q rfl (Qt.pick rfl rfl) ?_
    refine LW.q rfl (Qt.move rfl) ?_
    first | refine LW.gT (t := 113) rfl rfl ?_ | refine LW.gT (t := 113) rfl (decide_eq_true (rfl)) ?_ | refine LW.gT (t := 113) rfl (rfl) ?_
    refine LW.q rfl (Qt.move rfl) ?_
    refine LW.q rfl (Qt.move rfl) ?_
    refine LW.q rfl (Qt.eql rfl rfl) ?_
    refine LW.q rfl (Qt.pick rfl rfl) ?_
    refine LW.e0 rfl (Ef.store [_, _, _, _, _] (by kernel_rfl) rfl rfl rfl rfl (by simp) ?_)
    try simp only [splice, List.length_cons, List.length_nil, List.drop_succ_cons, List.cons_append, List.take_succ_cons, List.take_zero, List.drop_zero, List.nil_append, List.append_nil]
    refine LW.q rfl (Qt.assign rfl) ?_
    refine LW.done ?_
    refine T.ret ?_
    exact ⟨.inl rfl, _, _, res [_, _] rfl ⟨rvA [_, _, _, _, _] (by kernel_rfl) rfl ⟨rfl, rfl, rfl, rfl, rfl, trivial⟩, rvT rfl, trivial⟩, ⟨m1, (rCommit r o.txn).1, Q, p1, n1, c1, p2, n2, c2, ⟨hI1, hs1, hok1, by omega, by omega, by rw [hbc.1]; omega⟩, hl1, hl2, by simp [outV], rfl⟩, Sub.any⟩
   ·
    refine T.seq ?_
    refine T.region ?_
    refine LW.q rfl (Qt.eql rfl rfl) ?_
    refine LW.q rfl (Qt.assign rfl) ?_
    refine LW.done ?_
    refine T.condP rfl (fun k3 => ?_) (fun k3 => ?_)
    ·
     by_cases hneg : findR r.T o.txn < 0
     ·
      obtain ⟨_, hab⟩ := (hS.abort (t := o.txn) hI).resolve_right (fun ⟨i, e, _⟩ => by omega)
      refine T.seq ?_
      refine T.region ?_
      first | refine LW.q rfl (Qt.loadAgg [_, _, _, _, _] (by kernel_rfl) rfl ⟨rfl, rfl, rfl, rfl, rfl, trivial⟩) ?_ | refine LW.q rfl (Qt.loadAgg [_, _, _, _, _] (by kernel_rfl) rfl (by exact rdl_flat _ _ _ (by intros; rfl) _ (by omega))) ?_
      refine LW.q rfl (Qt.fieldAddr (off := 1) (by kernel_rfl) rfl) ?_
      first | refine LW.q rfl (Qt.load (by kernel_rfl) rfl rfl) ?_ | refine LW.q rfl (Qt.load (by kernel_rfl) rfl (map_at _ _ _ (by omega))) ?_ | refine LW.q rfl (Qt.load (by kernel_rfl) rfl (flat_cell0 _ _ _ (by intros; rfl) _ (by omega) (by rfl))) ?_ | refine LW.q rfl (Qt.load (by kernel_rfl) rfl (flat_cell _ _ _ (by intros; rfl) _ _ (by omega) (by rfl))) ?_ | refine LW.q rfl (Qt.load (by kernel_rfl) rfl (bytes_at _ _ (by omega))) ?_
      refine LW.e rfl (Ef.call (Mw.without_no B r pt nt ct ph nh ch o.txn hnt (by omega) hneg) Try.func28 rfl rfl rfl ?_)
      rintro _ _ ⟨rfl, rfl⟩
      try simp only [List.cons_append, List.nil_append]
      refine LW.q rfl (Qt.move rfl) ?_
      refine LW.q rfl (Qt.extr rfl rfl) ?_
      refine LW.q rfl (Qt.extr rfl rfl) ?_
      refine LW.e rfl (Ef.alloc [.int .i64 0, .int .i64 0, .int .i64 0, .slice none 0 0, .slice none 0 0] (by unfold zeroB; kernel_rfl) ?_)
      intro g21
      refine LW.e0 rfl (Ef.store [_, _, _, _, _] (by kernel_rfl) rfl rfl rfl rfl (by simp) ?_)
      try simp only [splice, List.length_cons, List.length_nil, List.drop_succ_cons, List.cons_append, List.take_succ_cons, List.take_zero, List.drop_zero, List.nil_append, List.append_nil]
      refine LW.q rfl (Qt.assign rfl) ?_
      refine LW.done ?_
      refine T.seq ?_
      refine T.draw 8 ([blk g21 (rmL r pt nt ct ph nh ch) 55, blk g5 [.int .i64 o.kind, .int .i64 o.txn, .slice da o.keys.length dc, .int .i64 o.n] 30]) (by kernel_rfl) (Nat.le_of_ble_eq_true rfl) (by kernel_rfl) ?_
      first | refine RW.q 0 rfl rfl (by kernel_rfl) Sub.any (Qt.loadAgg [_, _, _, _, _] (by kernel_rfl) rfl ⟨rfl, rfl, rfl, rfl, rfl, trivial⟩) ?_ | refine RW.q 0 rfl rfl (by kernel_rfl) Sub.any (Qt.loadAgg [_, _, _, _, _] (by kernel_rfl) rfl (by exact rdl_flat _ _ _ (by intros; rfl) _ (by omega))) ?_
      refine RW.q 1 rfl rfl (by kernel_rfl) Sub.any (Qt.move rfl) ?_
      refine RW.q 2 rfl rfl (by kernel_rfl) Sub.any (Qt.fieldAddr (off := 1) (by kernel_rfl) rfl) ?_
      first | refine RW.q 3 rfl rfl (by kernel_rfl) Sub.any (Qt.load (by kernel_rfl) rfl rfl) ?_ | refine RW.q 3 rfl rfl (by kernel_rfl) Sub.any (Qt.load (by kernel_rfl) rfl (map_at _ _ _ (by omega))) ?_ | refine RW.q 3 rfl rfl (by kernel_rfl) Sub.any (Qt.load (by kernel_rfl) rfl (flat_cell0 _ _ _ (by intros; rfl) _ (by omega) (by rfl))) ?_ | refine RW.q 3 rfl rfl (by kernel_rfl) Sub.any (Qt.load (by kernel_rfl) rfl (flat_cell _ _ _ (by intros; rfl) _ _ (by omega) (by rfl))) ?_ | refine RW.q 3 rfl rfl (by kernel_rfl) Sub.any (Qt.load (by kernel_rfl) rfl (bytes_at _ _ (by omega))) ?_
      refine RW.q 5 rfl rfl (by kernel_rfl) Sub.any (Qt.move rfl) ?_
      refine RW.one 4 (by kernel_rfl) ?_
      refine RO.eS rfl rfl (Ef.call (Mv.abortI B g m o.txn hI) Try.func18 rfl rfl rfl ?_)
      rintro _ _ ⟨m1, hm1, hI1, rfl, rfl⟩
      try simp only [List.cons_append, List.nil_append]
      rw [hab] at hm1
      subst hm1
      rw [show (abortM m o.txn).2 = 70 by rw [hab]]
      refine ⟨Sub.any, ?_⟩
      refine RW.q 6 rfl rfl (by kernel_rfl) Sub.any (Qt.eql rfl rfl) ?_
      refine RW.one 7 (by kernel_rfl) ?_
      refine RO.eS0 rfl rfl (Ef.store [_, _, _, _, _] (by kernel_rfl) rfl rfl rfl rfl (by simp) ?_)
      try simp only [splice, List.length_cons, List.length_nil, List.drop_succ_cons, List.cons_append, List.take_succ_cons, List.take_zero, List.drop_zero, List.nil_append, List.append_nil]
      refine ⟨Sub.any, ?_⟩
      refine RW.done (by rfl) ?_
      simp only [List.drop_succ_cons, List.drop_zero, List.drop_nil]
      refine LW.q rfl (Qt.assign rfl) ?_
      refine LW.done ?_
      refine T.ret ?_
      exact ⟨.inl rfl, _, _, res [_, _] rfl ⟨rvA [_, _, _, _, _] (by kernel_rfl) rfl ⟨rfl, rfl, rfl, rfl, rfl, trivial⟩, rvT rfl, trivial⟩, ⟨m, r, Q, pt, nt, ct, ph, nh, ch, ⟨hI, hS, hokN, by omega, by omega, by omega⟩, hnt, hnh, by simp [outV], rfl⟩, Sub.any⟩
     ·
      obtain ⟨i, hfi, hil, hab, hs1⟩ := (hS.abort (t := o.txn) hI).resolve_left (fun e => hneg e.1)
      refine T.seq ?_
      refine T.region ?_
      first | refine LW.q rfl (Qt.loadAgg [_, _, _, _, _] (by kernel_rfl) rfl ⟨rfl, rfl, rfl, rfl, rfl, trivial⟩) ?_ | refine LW.q rfl (Qt.loadAgg [_, _, _, _, _] (by kernel_rfl) rfl (by exact rdl_flat _ _ _ (by intros; rfl) _ (by omega))) ?_
      refine LW.q rfl (Qt.fieldAddr (off := 1) (by kernel_rfl) rfl) ?_
      first | refine LW.q rfl (Qt.load (by kernel_rfl) rfl rfl) ?_ | refine LW.q rfl (Qt.load (by kernel_rfl) rfl (map_at _ _ _ (by omega))) ?_ | refine LW.q rfl (Qt.load (by kernel_rfl) rfl (flat_cell0 _ _ _ (by intros; rfl) _ (by omega) (by rfl))) ?_ | refine LW.q rfl (Qt.load (by kernel_rfl) rfl (flat_cell _ _ _ (by intros; rfl) _ _ (by omega) (by rfl))) ?_ | refine LW.q rfl (Qt.load (by kernel_rfl) rfl (bytes_at _ _ (by omega))) ?_
      refine LW.e rfl (Ef.call (Mw.without B r pt nt ct ph nh ch o.txn hnt (by omega) i hfi (by omega)) Try.func28 rfl rfl rfl ?_)
      rintro _ _ ⟨p1, c1, n1, hn1', rfl, rfl⟩
      try simp only [List.cons_append, List.nil_append]
      refine LW.q rfl (Qt.move rfl) ?_
      refine LW.q rfl (Qt.extr rfl rfl) ?_
      refine LW.q rfl (Qt.extr rfl rfl) ?_
      refine LW.e rfl (Ef.alloc [.int .i64 0, .int .i64 0, .int .i64 0, .slice none 0 0, .slice none 0 0] (by unfold zeroB; kernel_rfl) ?_)
      intro g21
      refine LW.e0 rfl (Ef.store [_, _, _, _, _] (by kernel_rfl) rfl rfl rfl rfl (by simp) ?_)
      try simp only [splice, List.length_cons, List.length_nil, List.drop_succ_cons, List.cons_append, List.take_succ_cons, List.take_zero, List.drop_zero, List.nil_append, List.append_nil]
      refine LW.q rfl (Qt.assign rfl) ?_
      refine LW.done ?_
      refine T.seq ?_
      refine T.draw 8 ([blk g21 (rmL r p1 n1 c1 ph nh ch) 55, blk g5 [.int .i64 o.kind, .int .i64 o.txn, .slice da o.keys.length dc, .int .i64 o.n] 30]) (by kernel_rfl) (Nat.le_of_ble_eq_true rfl) (by kernel_rfl) ?_
      first | refine RW.q 0 rfl rfl (by kernel_rfl) Sub.any (Qt.loadAgg [_, _, _, _, _] (by kernel_rfl) rfl ⟨rfl, rfl, rfl, rfl, rfl, trivial⟩) ?_ | refine RW.q 0 rfl rfl (by kernel_rfl) Sub.any (Qt.loadAgg [_, _, _, _, _] (by kernel_rfl) rfl (by exact rdl_flat _ _ _ (by intros; rfl) _ (by omega))) ?_
      refine RW.q 1 rfl rfl (by kernel_rfl) Sub.any (Qt.move rfl) ?_
      refine RW.q 2 rfl rfl (by kernel_rfl) Sub.any (Qt.fieldAddr (off := 1) (by kernel_rfl) rfl) ?_
      first | refine RW.q 3 rfl rfl (by kernel_rfl) Sub.any (Qt.load (by kernel_rfl) rfl rfl) ?_ | refine RW.q 3 rfl rfl (by kernel_rfl) Sub.any (Qt.load (by kernel_rfl) rfl (map_at _ _ _ (by omega))) ?_ | refine RW.q 3 rfl rfl (by kernel_rfl) Sub.any (Qt.load (by kernel_rfl) rfl (flat_cell0 _ _ _ (by intros; rfl) _ (by omega) (by rfl))) ?_ | refine RW.q 3 rfl rfl (by kernel_rfl) Sub.any (Qt.load (by kernel_rfl) rfl (flat_cell _ _ _ (by intros; rfl) _ _ (by omega) (by rfl))) ?_ | refine RW.q 3 rfl rfl (by kernel_rfl) Sub.any (Qt.load (by kernel_rfl) rfl (bytes_at _ _ (by omega))) ?_
      refine RW.q 5 rfl rfl (by kernel_rfl) Sub.any (Qt.move rfl) ?_
      refine RW.one 4 (by kernel_rfl) ?_
      refine RO.eS rfl rfl (Ef.call (Mv.abortI B g m o.txn hI) Try.func18 rfl rfl rfl ?_)
      rintro _ _ ⟨m1, hm1, hI1, rfl, rfl⟩
      try simp only [List.cons_append, List.nil_append]
      rw [hab]
      rw [hm1] at hs1
      refine ⟨Sub.any, ?_⟩
      refine RW.q 6 rfl rfl (by kernel_rfl) Sub.any (Qt.eql rfl rfl) ?_
      refine RW.one 7 (by kernel_rfl) ?_
      refine RO.eS0 rfl rfl (Ef.store [_, _, _, _, _] (by kernel_rfl) rfl rfl rfl rfl (by simp) ?_)
      try simp only [splice, List.length_cons, List.length_nil, List.drop_succ_cons, List.cons_append, List.take_succ_cons, List.take_zero, List.drop_zero, List.nil_append, List.append_nil]
      refine ⟨Sub.any, ?_⟩
      refine RW.done (by rfl) ?_
      simp only [List.drop_succ_cons, List.drop_zero, List.drop_nil]
      refine LW.q rfl (Qt.assign rfl) ?_
      refine LW.done ?_
      have hb1 : m1.begun = m.begun := by rw [hs1.begun]; exact hS.begun.symm
      refine T.ret ?_
      exact ⟨.inl rfl, _, _, res [_, _] rfl ⟨rvA [_, _, _, _, _] (by kernel_rfl) rfl ⟨rfl, rfl, rfl, rfl, rfl, trivial⟩, rvT rfl, trivial⟩, ⟨m1, { r with T := r.T.eraseIdx i }, Q, p1, n1, c1, ph, nh, ch, ⟨hI1, hs1, hokN.erase i, by rw [List.length_eraseIdx_of_lt hil]; omega, by dsimp only; omega, by omega⟩, by rw [List.length_eraseIdx_of_lt hil]; omega, hnh, by simp [outV], rfl⟩, Sub.any⟩
    ·
     refine T.seq ?_
     refine T.region ?_
     refine LW.q rfl (Qt.eql rfl rfl) ?_
     refine LW.q rfl (Qt.assign rfl) ?_
     refine LW.done ?_
     refine T.condP rfl (fun k4 => ?_) (fun k4 => ?_)
     ·
      refine T.seq ?_
      refine T.draw 6 ([blk g5 [.int .i64 o.kind, .int .i64 o.txn, .slice da o.keys.length dc, .int .i64 o.n] 30]) (by kernel_rfl) (Nat.le_of_ble_eq_true rfl) (by kernel_rfl) ?_
      refine RW.q 0 rfl rfl (by kernel_rfl) Sub.any (Qt.move rfl) ?_
      refine RW.q 1 rfl rfl (by kernel_rfl) Sub.any (Qt.nilCheck rfl) ?_
      refine RW.q 2 rfl rfl (by kernel_rfl) Sub.any (Qt.fieldAddr0 (by kernel_rfl) rfl) ?_
      refine RW.q 3 rfl rfl (by kernel_rfl) Sub.any (Qt.fieldAddr (off := 3) (by kernel_rfl) rfl) ?_
      first | refine RW.q 4 rfl rfl (by kernel_rfl) Sub.any (Qt.load (by kernel_rfl) rfl rfl) ?_ | refine RW.q 4 rfl rfl (by kernel_rfl) Sub.any (Qt.load (by kernel_rfl) rfl (map_at _ _ _ (by omega))) ?_ | refine RW.q 4 rfl rfl (by kernel_rfl) Sub.any (Qt.load (by kernel_rfl) rfl (flat_cell0 _ _ _ (by intros; rfl) _ (by omega) (by rfl))) ?_ | refine RW.q 4 rfl rfl (by kernel_rfl) Sub.any (Qt.load (by kernel_rfl) rfl (flat_cell _ _ _ (by intros; rfl) _ _ (by omega) (by rfl))) ?_ | refine RW.q 4 rfl rfl (by kernel_rfl) Sub.any (Qt.load (by kernel_rfl) rfl (bytes_at _ _ (by omega))) ?_
      refine RW.one 5 (by kernel_rfl) ?_
      refine RO.eS rfl rfl (Ef.call (Mv.tickI B g m o.n hI) Try.func15 rfl rfl rfl ?_)
      rintro _ _ ⟨m1, ht1, rfl, rfl⟩
      try simp only [List.cons_append, List.nil_append]
      refine ⟨Sub.any, ?_⟩
      refine RW.done (by rfl) ?_
      simp only [List.drop_succ_cons, List.drop_zero, List.drop_nil]
      refine LW.done ?_
      refine T.seq ?_
      refine T.region ?_
      first | refine LW.q rfl (Qt.loadAgg [_, _, _, _, _] (by kernel_rfl) rfl ⟨rfl, rfl, rfl, rfl, rfl, trivial⟩) ?_ | refine LW.q rfl (Qt.loadAgg [_, _, _, _, _] (by kernel_rfl) rfl (by exact rdl_flat _ _ _ (by intros; rfl) _ (by omega))) ?_
      refine LW.q rfl (Qt.fieldAddr (off := 3) (by kernel_rfl) rfl) ?_
      first | refine LW.q rfl (Qt.load (by kernel_rfl) rfl rfl) ?_ | refine LW.q rfl (Qt.load (by kernel_rfl) rfl (map_at _ _ _ (by omega))) ?_ | refine LW.q rfl (Qt.load (by kernel_rfl) rfl (flat_cell0 _ _ _ (by intros; rfl) _ (by omega) (by rfl))) ?_ | refine LW.q rfl (Qt.load (by kernel_rfl) rfl (flat_cell _ _ _ (by intros; rfl) _ _ (by omega) (by rfl))) ?_ | refine LW.q rfl (Qt.load (by kernel_rfl) rfl (bytes_at _ _ (by omega))) ?_
      refine LW.e rfl (Ef.call (Mw.tick B r pt nt ct ph nh ch o.n hnn) Try.func29 rfl rfl rfl ?_)
      rintro _ _ ⟨rfl, rfl⟩
      try simp only [List.cons_append, List.nil_append]
      refine LW.e0 rfl (Ef.store [_, _, _, _, _] (by kernel_rfl) rfl rfl rfl rfl (by simp) ?_)
      try simp only [splice, List.length_cons, List.length_nil, List.drop_succ_cons, List.cons_append, List.take_succ_cons, List.take_zero, List.drop_zero, List.nil_append, List.append_nil]
      refine LW.q rfl (Qt.assign rfl) ?_
      refine LW.done ?_
      refine T.ret ?_
      exact ⟨.inl rfl, _, _, res [_, _] rfl ⟨rvA [_, _, _, _, _] (by kernel_rfl) rfl ⟨rfl, rfl, rfl, rfl, rfl, trivial⟩, rvT rfl, trivial⟩, ⟨m1, { r with now := tickZ r.now o.n }, Q, pt, nt, ct, ph, nh, ch, ⟨ht1.inv, ⟨by rw [ht1.now, hS.now], by rw [ht1.last]; exact hS.last, by rw [ht1.begun]; exact hS.begun, by rw [ht1.T]; exact hS.ids, by rw [ht1.T]; exact hS.ks, by rw [ht1.W]; exact hS.wr⟩, ⟨hokN.T, hokN.H⟩, by dsimp only; omega, by dsimp only; omega, by rw [ht1.begun]; omega⟩, hnt, hnh, by simp [outV], rfl⟩, Sub.any⟩
     ·
      refine T.seq ?_
      refine T.region ?_
      refine LW.q rfl (Qt.eql rfl rfl) ?_
      refine LW.q rfl (Qt.assign rfl) ?_
      refine LW.done ?_
      refine T.condP rfl (fun k5 => ?_) (fun k5 => ?_)
      ·
       by_cases hneg : findR r.T o.txn < 0
       ·
        obtain ⟨f1, f2⟩ := (hS.find o.txn).resolve_right (fun ⟨i, x, y, _, e, _⟩ => by omega)
        refine T.seq ?_
        refine T.region ?_
        refine LW.q rfl (Qt.move rfl) ?_
        refine LW.q rfl (Qt.fieldAddr (off := 1) (by kernel_rfl) rfl) ?_
        first | refine LW.q rfl (Qt.load (by kernel_rfl) rfl rfl) ?_ | refine LW.q rfl (Qt.load (by kernel_rfl) rfl (map_at _ _ _ (by omega))) ?_ | refine LW.q rfl (Qt.load (by kernel_rfl) rfl (flat_cell0 _ _ _ (by intros; rfl) _ (by omega) (by rfl))) ?_ | refine LW.q rfl (Qt.load (by kernel_rfl) rfl (flat_cell _ _ _ (by intros; rfl) _ _ (by omega) (by rfl))) ?_ | refine LW.q rfl (Qt.load (by kernel_rfl) rfl (bytes_at _ _ (by omega))) ?_
        refine LW.e rfl (Ef.call (Mv.snapshot B g m o.txn) Try.func19 rfl rfl rfl ?_)
        rintro _ _ ⟨rfl, rfl⟩
        try simp only [List.cons_append, List.nil_append]
        rw [f1]
        refine LW.q rfl (Qt.move rfl) ?_
        refine LW.q rfl (Qt.extr rfl rfl) ?_
        refine LW.q rfl (Qt.extr rfl rfl) ?_
        refine LW.q rfl (Qt.assign rfl) ?_
        refine LW.q rfl (Qt.assign rfl) ?_
        refine LW.done ?_
        refine T.seq ?_
        refine T.region ?_
        first | refine LW.q rfl (Qt.loadAgg [_, _, _, _, _] (by kernel_rfl) rfl ⟨rfl, rfl, rfl, rfl, rfl, trivial⟩) ?_ | refine LW.q rfl (Qt.loadAgg [_, _, _, _, _] (by kernel_rfl) rfl (by exact rdl_flat _ _ _ (by intros; rfl) _ (by omega))) ?_
        refine LW.q rfl (Qt.fieldAddr (off := 1) (by kernel_rfl) rfl) ?_
        first | refine LW.q rfl (Qt.load (by kernel_rfl) rfl rfl) ?_ | refine LW.q rfl (Qt.load (by kernel_rfl) rfl (map_at _ _ _ (by omega))) ?_ | refine LW.q rfl (Qt.load (by kernel_rfl) rfl (flat_cell0 _ _ _ (by intros; rfl) _ (by omega) (by rfl))) ?_ | refine LW.q rfl (Qt.load (by kernel_rfl) rfl (flat_cell _ _ _ (by intros; rfl) _ _ (by omega) (by rfl))) ?_ | refine LW.q rfl (Qt.load (by kernel_rfl) rfl (bytes_at _ _ (by omega))) ?_
        refine LW.e rfl (Ef.call (Mw.find B r pt nt ct ph nh ch o.txn hnt (by omega)) Try.func30 rfl rfl rfl ?_)
        rintro _ _ ⟨rfl, rfl⟩
        try simp only [List.cons_append, List.nil_append]
        refine LW.q rfl (Qt.assign rfl) ?_
        refine LW.done ?_
        refine T.seq ?_
        refine T.seq ?_
        refine T.region ?_
        refine LW.q rfl (Qt.move rfl) ?_
        refine LW.q rfl (Qt.lss rfl rfl) ?_
        refine LW.done ?_
        first | refine T.condT rfl ?_ | refine T.condPT rfl (by omega) ?_ | refine T.condBT rfl (by omega) ?_
        refine T.seq ?_
        refine T.region ?_
        first | refine LW.q rfl (Qt.loadAgg [_, _, _, _, _] (by kernel_rfl) rfl ⟨rfl, rfl, rfl, rfl, rfl, trivial⟩) ?_ | refine LW.q rfl (Qt.loadAgg [_, _, _, _, _] (by kernel_rfl) rfl (by exact rdl_flat _ _ _ (by intros; rfl) _ (by omega))) ?_
        refine LW.q rfl (Qt.move rfl) ?_
        refine LW.q rfl (Qt.eql rfl rfl) ?_
        refine LW.q rfl (Qt.move rfl) ?_
        first | refine LW.gT (t := 164) rfl rfl ?_ | refine LW.gT (t := 164) rfl (decide_eq_true (rfl)) ?_ | refine LW.gT (t := 164) rfl (rfl) ?_
        refine LW.q rfl (Qt.move rfl) ?_
        refine LW.q rfl (Qt.eql rfl rfl) ?_
        refine LW.q rfl (Qt.pick rfl rfl) ?_
        refine LW.e0 rfl (Ef.store [_, _, _, _, _] (by kernel_rfl) rfl rfl rfl rfl (by simp) ?_)
        try simp only [splice, List.length_cons, List.length_nil, List.drop_succ_cons, List.cons_append, List.take_succ_cons, List.take_zero, List.drop_zero, List.nil_append, List.append_nil]
        refine LW.q rfl (Qt.assign rfl) ?_
        refine LW.done ?_
        refine T.ret ?_
        exact ⟨.inl rfl, _, _, res [_, _] rfl ⟨rvA [_, _, _, _, _] (by kernel_rfl) rfl ⟨rfl, rfl, rfl, rfl, rfl, trivial⟩, rvT rfl, trivial⟩, ⟨m, r, Q, pt, nt, ct, ph, nh, ch, ⟨hI, hS, hokN, by omega, by omega, by omega⟩, hnt, hnh, by simp [outV], rfl⟩, Sub.any⟩
       ·
        obtain ⟨i, x, y, f1, f2, f3, f4, f5, f6, f7⟩ := (hS.find o.txn).resolve_left (fun e => by omega)
        have hil := (List.getElem?_eq_some_iff.1 f4).1
        refine T.seq ?_
        refine T.region ?_
        refine LW.q rfl (Qt.move rfl) ?_
        refine LW.q rfl (Qt.fieldAddr (off := 1) (by kernel_rfl) rfl) ?_
        first | refine LW.q rfl (Qt.load (by kernel_rfl) rfl rfl) ?_ | refine LW.q rfl (Qt.load (by kernel_rfl) rfl (map_at _ _ _ (by omega))) ?_ | refine LW.q rfl (Qt.load (by kernel_rfl) rfl (flat_cell0 _ _ _ (by intros; rfl) _ (by omega) (by rfl))) ?_ | refine LW.q rfl (Qt.load (by kernel_rfl) rfl (flat_cell _ _ _ (by intros; rfl) _ _ (by omega) (by rfl))) ?_ | refine LW.q rfl (Qt.load (by kernel_rfl) rfl (bytes_at _ _ (by omega))) ?_
        refine LW.e rfl (Ef.call (Mv.snapshot B g m o.txn) Try.func19 rfl rfl rfl ?_)
        rintro _ _ ⟨rfl, rfl⟩
        try simp only [List.cons_append, List.nil_append]
        rw [f1]
        dsimp only
        refine LW.q rfl (Qt.move rfl) ?_
        refine LW.q rfl (Qt.extr rfl rfl) ?_
        refine LW.q rfl (Qt.extr rfl rfl) ?_
        refine LW.q rfl (Qt.assign rfl) ?_
        refine LW.q rfl (Qt.assign rfl) ?_
        refine LW.done ?_
        refine T.seq ?_
        refine T.region ?_
        first | refine LW.q rfl (Qt.loadAgg [_, _, _, _, _] (by kernel_rfl) rfl ⟨rfl, rfl, rfl, rfl, rfl, trivial⟩) ?_ | refine LW.q rfl (Qt.loadAgg [_, _, _, _, _] (by kernel_rfl) rfl (by exact rdl_flat _ _ _ (by intros; rfl) _ (by omega))) ?_
        refine LW.q rfl (Qt.fieldAddr (off := 1) (by kernel_rfl) rfl) ?_
        first | refine LW.q rfl (Qt.load (by kernel_rfl) rfl rfl) ?_ | refine LW.q rfl (Qt.load (by kernel_rfl) rfl (map_at _ _ _ (by omega))) ?_ | refine LW.q rfl (Qt.load (by kernel_rfl) rfl (flat_cell0 _ _ _ (by intros; rfl) _ (by omega) (by rfl))) ?_ | refine LW.q rfl (Qt.load (by kernel_rfl) rfl (flat_cell _ _ _ (by intros; rfl) _ _ (by omega) (by rfl))) ?_ | refine LW.q rfl (Qt.load (by kernel_rfl) rfl (bytes_at _ _ (by omega))) ?_
        refine LW.e rfl (Ef.call (Mw.find B r pt nt ct ph nh ch o.txn hnt (by omega)) Try.func30 rfl rfl rfl ?_)
        rintro _ _ ⟨rfl, rfl⟩
        try simp only [List.cons_append, List.nil_append]
        refine LW.own (fun w ho => ?_)
        obtain ⟨gt, rfl⟩ : ∃ g, pt = some ⟨g, 0, none⟩ := (ho.slice_at (p := pt) (m := nt) (c := ct)).2.1 (by omega)
        clear ho
        refine LW.q rfl (Qt.assign rfl) ?_
        refine LW.done ?_
        refine T.seq ?_
        refine T.seq ?_
        refine T.region ?_
        refine LW.q rfl (Qt.move rfl) ?_
        refine LW.q rfl (Qt.lss rfl rfl) ?_
        refine LW.done ?_
        first | refine T.condF rfl ?_ | refine T.condPF rfl (by omega) ?_ | refine T.condBF rfl (by omega) ?_
        refine T.skip ?_
        refine T.seq ?_
        refine T.drawEx 14 g6 (by kernel_rfl) (Nat.le_of_ble_eq_true rfl) (by kernel_rfl) ?_
        first | refine RW.q 0 rfl rfl (by kernel_rfl) Sub.any (Qt.loadAgg [_, _, _, _, _] (by kernel_rfl) rfl ⟨rfl, rfl, rfl, rfl, rfl, trivial⟩) ?_ | refine RW.q 0 rfl rfl (by kernel_rfl) Sub.any (Qt.loadAgg [_, _, _, _, _] (by kernel_rfl) rfl (by exact rdl_flat _ _ _ (by intros; rfl) _ (by omega))) ?_
        refine RW.q 1 rfl rfl (by kernel_rfl) Sub.any (Qt.move rfl) ?_
        refine RW.q 2 rfl rfl (by kernel_rfl) Sub.any (Qt.eql rfl rfl) ?_
        refine RW.q 3 rfl rfl (by kernel_rfl) Sub.any (Qt.move rfl) ?_
        first | refine RW.gT (t := 171) rfl rfl ?_ | refine RW.gT (t := 171) rfl (decide_eq_true (rfl)) ?_ | refine RW.gT (t := 171) rfl (rfl) ?_
        refine RW.q 4 rfl rfl (by kernel_rfl) Sub.any (Qt.move rfl) ?_
        refine RW.q 5 rfl rfl (by kernel_rfl) Sub.any (Qt.fieldAddr (off := 3) (by kernel_rfl) rfl) ?_
        first | refine RW.q 6 rfl rfl (by kernel_rfl) Sub.any (Qt.load (by kernel_rfl) rfl rfl) ?_ | refine RW.q 6 rfl rfl (by kernel_rfl) Sub.any (Qt.load (by kernel_rfl) rfl (map_at _ _ _ (by omega))) ?_ | refine RW.q 6 rfl rfl (by kernel_rfl) Sub.any (Qt.load (by kernel_rfl) rfl (flat_cell0 _ _ _ (by intros; rfl) _ (by omega) (by rfl))) ?_ | refine RW.q 6 rfl rfl (by kernel_rfl) Sub.any (Qt.load (by kernel_rfl) rfl (flat_cell _ _ _ (by intros; rfl) _ _ (by omega) (by rfl))) ?_ | refine RW.q 6 rfl rfl (by kernel_rfl) Sub.any (Qt.load (by kernel_rfl) rfl (bytes_at _ _ (by omega))) ?_
        refine RW.q 7 rfl rfl (by kernel_rfl) Sub.any (Qt.move rfl) ?_
        refine RW.q 8 rfl rfl (by kernel_rfl) Sub.any (Qt.index i (e := 60) (sz := 3) (by kernel_rfl) rfl rfl f2 (by omega)) ?_
        refine RW.q 9 rfl rfl (by kernel_rfl) Sub.any (Qt.fieldAddr (off := 1) (by kernel_rfl) rfl) ?_
        refine RW.q 10 rfl rfl (by kernel_rfl) Sub.any (Qt.load (v := .int .i64 y.snap) (by kernel_rfl) rfl (flat3 rtC (fun _ => rfl) f4 1 (by omega))) ?_
        refine RW.q 11 rfl rfl (by kernel_rfl) Sub.any (Qt.eql rfl rfl) ?_
        refine RW.q 12 rfl rfl (by kernel_rfl) Sub.any (Qt.pick rfl rfl) ?_
        refine RW.one 13 (by kernel_rfl) ?_
        refine RO.eS0 rfl rfl (Ef.store [_, _, _, _, _] (by kernel_rfl) rfl rfl rfl rfl (by simp) ?_)
        try simp only [splice, List.length_cons, List.length_nil, List.drop_succ_cons, List.cons_append, List.take_succ_cons, List.take_zero, List.drop_zero, List.nil_append, List.append_nil]
        refine ⟨Sub.any, ?_⟩
        refine RW.done (by rfl) ?_
        simp only [List.drop_succ_cons, List.drop_zero, List.drop_nil]
        refine LW.q rfl (Qt.assign rfl) ?_
        refine LW.done ?_
        refine T.ret ?_
        exact ⟨.inl rfl, _, _, res [_, _] rfl ⟨rvA [_, _, _, _, _] (by kernel_rfl) rfl ⟨rfl, rfl, rfl, rfl, rfl, trivial⟩, rvT rfl, trivial⟩, ⟨m, r, Q, some ⟨gt, 0, none⟩, nt, ct, ph, nh, ch, ⟨hI, hS, hokN, by omega, by omega, by omega⟩, hnt, hnh, by simp [outV, f7], rfl⟩, Sub.any⟩
      ·
       refine T.skip ?_
       refine T.seq ?_
       refine T.region ?_
       first | refine LW.q rfl (Qt.loadAgg [_, _, _, _, _] (by kernel_rfl) rfl ⟨rfl, rfl, rfl, rfl, rfl, trivial⟩) ?_ | refine LW.q rfl (Qt.loadAgg [_, _, _, _, _] (by kernel_rfl) rfl (by exact rdl_flat _ _ _ (by intros; rfl) _ (by omega))) ?_
       refine LW.e0 rfl (Ef.store [_, _, _, _, _] (by kernel_rfl) rfl rfl rfl rfl (by simp) ?_)
       try simp only [splice, List.length_cons, List.length_nil, List.drop_succ_cons, List.cons_append, List.take_succ_cons, List.take_zero, List.drop_zero, List.nil_append, List.append_nil]
       refine LW.q rfl (Qt.assign rfl) ?_
       refine LW.done ?_
       refine T.ret ?_
       exact ⟨.inl rfl, _, _, res [_, _] rfl ⟨rvA [_, _, _, _, _] (by kernel_rfl) rfl ⟨rfl, rfl, rfl, rfl, rfl, trivial⟩, rvT rfl, trivial⟩, ⟨m, r, Q, pt, nt, ct, ph, nh, ch, ⟨hI, hS, hokN, by omega, by omega, by omega⟩, hnt, hnh, by simp [outV], rfl⟩, Sub.any⟩
end Go.Proofs.Ytgfbjabjkjbnlaa

/- The statement MvccPlays, the whole. Conditions: that what is handed in can be read; sizes. -/
set_option linter.unusedSimpArgs false
set_option linter.unusedVariables false
namespace Go.Proofs.Ytgfbjabjkjbnlaa
open Go.RowKit

theorem sum_take {α : Type} (f : α → Nat) : ∀ (l : List α) (k : Nat), ((l.take k).map f).sum ≤ (l.map f).sum
  | [], k => by simp
  | a :: l, 0 => by simp
  | a :: l, k + 1 => by simp only [List.take_succ_cons, List.map_cons, List.sum_cons]; have := sum_take f l k; omega
theorem sum_take_succ {α : Type} (f : α → Nat) {l : List α} {k : Nat} (h : k < l.length) : ((l.take (k + 1)).map f).sum = ((l.take k).map f).sum + f l[k] := by
  rw [List.take_succ_eq_append_getElem h, List.map_append, List.sum_append]; simp only [List.map_cons, List.map_nil, List.sum_cons, List.sum_nil, Nat.add_zero]
set_option maxHeartbeats 16000000 in
set_option maxRecDepth 100000 in
theorem Mw.plays (B : Base) (last begun : Int) (hb : -(2 ^ 63) ≤ begun ∧ begun < 2 ^ 63) (hl : -(2 ^ 63) ≤ last ∧ last < 2 ^ 63) (sv : Value) (sc : List OpM) (hsv : RoLM B sv sc) (hsl : sc.length ≤ 1048576) (hop : (sc.map fun o => o.keys.length).sum ≤ 1048576) : Fn Try.prog B 7 #[.int .i64 last, .int .i64 begun, sv] [] (fun u l => u = .bool true ∧ l = []) := by
 obtain ⟨sa, scap, rfl, hsc⟩ := hsv
 refine Fn.enter3 81 Try.func7 rfl rfl (Nat.le_of_ble_eq_true rfl) (fun F => ?_)
 try simp only [List.cons_append, List.nil_append]
 refine T.seq ?_
 refine T.region ?_
 refine LW.q rfl (Qt.assign rfl) ?_
 refine LW.done ?_
 refine T.seq ?_
 refine T.seq ?_
 refine T.region ?_
 refine LW.e rfl (Ef.call (Mv.awake B) Try.func8 rfl rfl rfl ?_)
 rintro _ _ ⟨rfl, rfl⟩
 try simp only [List.cons_append, List.nil_append]
 first | refine LW.q rfl (Qt.notP rfl) ?_ | refine LW.q rfl (Qt.notB rfl) ?_
 refine LW.done ?_
 first | refine T.condF rfl ?_ | refine T.condPF rfl (by omega) ?_ | refine T.condBF rfl (by omega) ?_
 refine T.skip ?_
 refine T.seq ?_
 refine T.region ?_
 refine LW.q rfl (Qt.move rfl) ?_
 refine LW.q rfl (Qt.move rfl) ?_
 refine LW.e rfl (Ef.call (Mv.newP B last begun hb hl) Try.func9 rfl rfl rfl ?_)
 rintro _ _ ⟨g, m0, hI0, n0, l0, b0, hT0, hW0, rfl, rfl⟩
 try simp only [List.cons_append, List.nil_append]
 refine LW.q rfl (Qt.assign rfl) ?_
 refine LW.done ?_
 refine T.seq ?_
 refine T.region ?_
 refine LW.q rfl (Qt.move rfl) ?_
 refine LW.q rfl (Qt.move rfl) ?_
 refine LW.e rfl (Ef.call (Mw.new B last begun) Try.func20 rfl rfl rfl ?_)
 rintro _ _ ⟨rfl, rfl⟩
 try simp only [List.cons_append, List.nil_append]
 refine LW.e rfl (Ef.alloc [.int .i64 0, .int .i64 0, .int .i64 0, .slice none 0 0, .slice none 0 0] (by unfold zeroB; kernel_rfl) ?_)
 intro g8
 refine LW.e0 rfl (Ef.store [_, _, _, _, _] (by kernel_rfl) rfl rfl rfl rfl (by simp) ?_)
 try simp only [splice, List.length_cons, List.length_nil, List.drop_succ_cons, List.cons_append, List.take_succ_cons, List.take_zero, List.drop_zero, List.nil_append, List.append_nil]
 refine LW.done ?_
 refine T.seq ?_
 refine T.region ?_
 refine LW.q rfl (Qt.assign rfl) ?_
 refine LW.done ?_
 refine T.seq ?_
 refine T.seq ?_
 refine T.region ?_
 refine LW.q rfl (Qt.move rfl) ?_
 refine LW.q rfl (Qt.len (e := 30) (sz := 4) (by kernel_rfl) rfl) ?_
 refine LW.q rfl (Qt.move rfl) ?_
 refine LW.done ?_
 refine T.block ?_
 have hp0 : PlayOk m0 ⟨min (max last 0) 1099511627776, min (max last 0) 1099511627776, min (max begun 0) 4611686018427387904, [], []⟩ [] 0 0 := ⟨hI0, ⟨n0, l0, b0, by rw [hT0]; rfl, fun i x y h => by (rw [hT0] at h; simp at h), fun s hs k => by (rw [hW0]; simp [lookL]; omega)⟩, ⟨fun x h => (by cases h), fun x h => (by cases h)⟩, Nat.le_refl _, Nat.le_refl _, by omega⟩
 refine T.conv (l' := poS [] :: rtR none 0 0 [] :: rhR none 0 0 [] :: _) (fun w ho => Own.map ((ho.row_nil 83 3).row_nil 60 3) fun h H => sep_nil H) ?_
 refine T.loop (fun mz fz lz => ∃ (f0 : Fr) (k : Nat) (m : Mg) (r : Rm) (Q : List Kq) (N : Nat) (pt : Option Addr) (nt ct : Nat) (ph : Option Addr) (nh ch : Nat), (k ≤ sc.length ∧ PlayOk m r Q N k ∧ N = ((sc.take k).map fun o => o.keys.length).sum ∧ r.T.length = nt ∧ r.H.length = nh) ∧ mz = sc.length - k ∧ fz = (upd (upd (upd (upd (upd f0 7 (.pointer (some ⟨g, 0, none⟩))) 8 (.pointer (some ⟨g8, 0, none⟩))) 22 (.slice sa sc.length scap)) 23 (.int .i64 sc.length)) 24 (.int .i64 k)) ∧ lz = mgB g m :: actA m :: wrA m :: ksA m.T :: rtR pt nt ct r.T :: rhR ph nh ch r.H :: poS Q :: blk g8 (rmL r pt nt ct ph nh ch) 55 :: F) ?_ ?_
 · refine ⟨_, _, ⟨_, 0, m0, ⟨min (max last 0) 1099511627776, min (max last 0) 1099511627776, min (max begun 0) 4611686018427387904, [], []⟩, [], 0, none, 0, 0, none, 0, 0, ⟨Nat.zero_le _, hp0, rfl, rfl, rfl⟩, rfl, (updS rfl (updS rfl (updS rfl (updS rfl (updS rfl rfl))))), rfl⟩, Sub.any⟩
 ·
  rintro mz fz lz ⟨f0, k, m, r, Q, N, pt, nt, ct, ph, nh, ch, ⟨hk, hP, hNs, hnt, hnh⟩, hmz, rfl, rfl⟩
  subst mz
  try simp only [List.cons_append, List.nil_append]
  refine T.seq ?_
  refine T.region ?_
  refine LW.q rfl (Qt.lss rfl rfl) ?_
  refine LW.done ?_
  refine T.seq ?_
  refine T.condP rfl (fun hlt => ?_) (fun hlt => ?_)
  ·
   obtain ⟨kb, ko, C, rfl, hro, hC⟩ := hsc.resolve_left (by intro e; rw [e] at hlt; simp at hlt; omega)
   obtain ⟨da, dc, hrd, hdv⟩ := hC k (by omega)
   have hs1 := sum_take_succ (fun o : OpM => o.keys.length) (l := sc) (k := k) (by omega)
   have hs2 := sum_take (fun o : OpM => o.keys.length) sc (k + 1)
   obtain ⟨o, ho⟩ : ∃ o, sc[k] = o := ⟨_, rfl⟩
   rw [ho] at hrd hdv hs1
   refine T.skip ?_
   refine T.seq ?_
   refine T.block ?_
   refine T.seq ?_
   refine T.region ?_
   refine LW.q rfl (Qt.index _ (e := 30) (sz := 4) (by kernel_rfl) rfl rfl rfl (by omega)) ?_
   refine LW.q rfl (Qt.loadAgg [_, _, _, _] (by kernel_rfl) rfl hrd) ?_
   refine LW.e rfl (Ef.alloc [.int .i64 0, .int .i64 0, .slice none 0 0, .int .i64 0] (by unfold zeroB; kernel_rfl) ?_)
   intro g11
   refine LW.e0 rfl (Ef.store [_, _, _, _] (by kernel_rfl) rfl rfl rfl rfl (by simp) ?_)
   try simp only [splice, List.length_cons, List.length_nil, List.drop_succ_cons, List.cons_append, List.take_succ_cons, List.take_zero, List.drop_zero, List.nil_append, List.append_nil]
   refine LW.done ?_
   refine T.seq ?_
   refine T.region ?_
   refine LW.q rfl (Qt.move rfl) ?_
   first | refine LW.q rfl (Qt.loadAgg [_, _, _, _, _] (by kernel_rfl) rfl ⟨rfl, rfl, rfl, rfl, rfl, trivial⟩) ?_ | refine LW.q rfl (Qt.loadAgg [_, _, _, _, _] (by kernel_rfl) rfl (by exact rdl_flat _ _ _ (by intros; rfl) _ (by omega))) ?_
   first | refine LW.q rfl (Qt.loadAgg [_, _, _, _] (by kernel_rfl) rfl ⟨rfl, rfl, rfl, rfl, trivial⟩) ?_ | refine LW.q rfl (Qt.loadAgg [_, _, _, _] (by kernel_rfl) rfl (by exact rdl_flat _ _ _ (by intros; rfl) _ (by omega))) ?_
   refine LW.e rfl (Ef.call (Mw.step B g m r Q N k hP (by omega) (by omega) pt nt ct ph nh ch hnt hnh o da dc hdv (by omega)) Try.func21 rfl rfl rfl ?_)
   rintro _ _ ⟨m1, r1, Q1, p1, n1, c1, p2, n2, c2, hP1, hn1, hn2, rfl, rfl⟩
   try simp only [List.cons_append, List.nil_append]
   refine LW.q rfl (Qt.move rfl) ?_
   refine LW.q rfl (Qt.extr rfl rfl) ?_
   refine LW.q rfl (Qt.extr rfl rfl) ?_
   refine LW.e0 rfl (Ef.store [_, _, _, _, _] (by kernel_rfl) rfl rfl rfl rfl (by simp) ?_)
   try simp only [splice, List.length_cons, List.length_nil, List.drop_succ_cons, List.cons_append, List.take_succ_cons, List.take_zero, List.drop_zero, List.nil_append, List.append_nil]
   refine LW.q rfl (Qt.assign rfl) ?_
   refine LW.done ?_
   refine T.seq ?_
   refine T.seq ?_
   have hS1 := hP1.sim
   have hT1 := hP1.nT
   have hlen1 := hS1.len
   refine T.draw 20 ([blk g8 (rmL r1 p1 n1 c1 p2 n2 c2) 55]) (by kernel_rfl) (Nat.le_of_ble_eq_true rfl) (by kernel_rfl) ?_
   refine RW.q 0 rfl rfl (by kernel_rfl) Sub.any (Qt.move rfl) ?_
   first | refine RW.q 1 rfl rfl (by kernel_rfl) Sub.any (Qt.notP rfl) ?_ | refine RW.q 1 rfl rfl (by kernel_rfl) Sub.any (Qt.notB rfl) ?_
   refine RW.q 2 rfl rfl (by kernel_rfl) Sub.any (Qt.move rfl) ?_
   first | refine RW.gF (t := 37) rfl rfl ?_ | refine RW.gF (t := 37) rfl (decide_eq_false (rfl)) ?_ | refine RW.gF (t := 37) rfl (rfl) ?_
   refine RW.q 3 rfl rfl (by kernel_rfl) Sub.any (Qt.move rfl) ?_
   refine RW.q 4 rfl rfl (by kernel_rfl) Sub.any (Qt.nilCheck rfl) ?_
   refine RW.q 5 rfl rfl (by kernel_rfl) Sub.any (Qt.fieldAddr0 (by kernel_rfl) rfl) ?_
   refine RW.q 7 rfl rfl (by kernel_rfl) Sub.any (Qt.fieldAddr0 (by kernel_rfl) rfl) ?_
   first | refine RW.q 8 rfl rfl (by kernel_rfl) Sub.any (Qt.load (by kernel_rfl) rfl rfl) ?_ | refine RW.q 8 rfl rfl (by kernel_rfl) Sub.any (Qt.load (by kernel_rfl) rfl (map_at _ _ _ (by omega))) ?_ | refine RW.q 8 rfl rfl (by kernel_rfl) Sub.any (Qt.load (by kernel_rfl) rfl (flat_cell0 _ _ _ (by intros; rfl) _ (by omega) (by rfl))) ?_ | refine RW.q 8 rfl rfl (by kernel_rfl) Sub.any (Qt.load (by kernel_rfl) rfl (flat_cell _ _ _ (by intros; rfl) _ _ (by omega) (by rfl))) ?_ | refine RW.q 8 rfl rfl (by kernel_rfl) Sub.any (Qt.load (by kernel_rfl) rfl (bytes_at _ _ (by omega))) ?_
   refine RW.one 6 (by kernel_rfl) ?_
   refine RO.eS rfl rfl (Ef.call (Mv.now B g m1) Try.func17 rfl rfl rfl ?_)
   rintro _ _ ⟨rfl, rfl⟩
   try simp only [List.cons_append, List.nil_append]
   rw [hS1.now]
   refine ⟨Sub.any, ?_⟩
   refine RW.q 9 rfl rfl (by kernel_rfl) Sub.any (Qt.neq rfl rfl) ?_
   refine RW.q 10 rfl rfl (by kernel_rfl) Sub.any (Qt.pick rfl rfl) ?_
   refine RW.q 11 rfl rfl (by kernel_rfl) Sub.any (Qt.move rfl) ?_
   first | refine RW.gF (t := 46) rfl rfl ?_ | refine RW.gF (t := 46) rfl (decide_eq_false ((by simp))) ?_ | refine RW.gF (t := 46) rfl ((by simp)) ?_
   refine RW.q 12 rfl rfl (by kernel_rfl) Sub.any (Qt.move rfl) ?_
   refine RW.q 13 rfl rfl (by kernel_rfl) Sub.any (Qt.nilCheck rfl) ?_
   refine RW.q 14 rfl rfl (by kernel_rfl) Sub.any (Qt.fieldAddr0 (by kernel_rfl) rfl) ?_
   refine RW.q 16 rfl rfl (by kernel_rfl) Sub.any (Qt.fieldAddr (off := 1) (by kernel_rfl) rfl) ?_
   first | refine RW.q 17 rfl rfl (by kernel_rfl) Sub.any (Qt.load (by kernel_rfl) rfl rfl) ?_ | refine RW.q 17 rfl rfl (by kernel_rfl) Sub.any (Qt.load (by kernel_rfl) rfl (map_at _ _ _ (by omega))) ?_ | refine RW.q 17 rfl rfl (by kernel_rfl) Sub.any (Qt.load (by kernel_rfl) rfl (flat_cell0 _ _ _ (by intros; rfl) _ (by omega) (by rfl))) ?_ | refine RW.q 17 rfl rfl (by kernel_rfl) Sub.any (Qt.load (by kernel_rfl) rfl (flat_cell _ _ _ (by intros; rfl) _ _ (by omega) (by rfl))) ?_ | refine RW.q 17 rfl rfl (by kernel_rfl) Sub.any (Qt.load (by kernel_rfl) rfl (bytes_at _ _ (by omega))) ?_
   refine RW.one 15 (by kernel_rfl) ?_
   refine RO.eS rfl rfl (Ef.call (Mv.last B g m1) Try.func16 rfl rfl rfl ?_)
   rintro _ _ ⟨rfl, rfl⟩
   try simp only [List.cons_append, List.nil_append]
   rw [hS1.last]
   refine ⟨Sub.any, ?_⟩
   refine RW.q 18 rfl rfl (by kernel_rfl) Sub.any (Qt.neq rfl rfl) ?_
   refine RW.q 19 rfl rfl (by kernel_rfl) Sub.any (Qt.pick rfl rfl) ?_
   refine RW.done (by rfl) ?_
   simp only [List.drop_succ_cons, List.drop_zero, List.drop_nil]
   refine LW.done ?_
   first | refine T.condF rfl ?_ | refine T.condPF rfl ((by simp)) ?_ | refine T.condBF rfl ((by simp)) ?_
   refine T.skip ?_
   refine T.seq ?_
   refine T.region ?_
   refine LW.q rfl (Qt.move rfl) ?_
   refine LW.e rfl (Ef.call (Mv.activeI B g m1 n1 hP1.inv (by omega) (by omega)) Try.func12 rfl rfl rfl ?_)
   rintro _ _ ⟨p3, c3, rfl, hp3, rfl⟩
   try simp only [List.cons_append, List.nil_append]
   refine LW.q rfl (Qt.assign rfl) ?_
   refine LW.done ?_
   refine T.seq ?_
   refine T.seq ?_
   refine T.region ?_
   refine LW.q rfl (Qt.move rfl) ?_
   refine LW.q rfl (Qt.len (e := 2) (sz := 1) (by kernel_rfl) rfl) ?_
   refine LW.q rfl (Qt.fieldAddr (off := 3) (by kernel_rfl) rfl) ?_
   first | refine LW.q rfl (Qt.load (by kernel_rfl) rfl rfl) ?_ | refine LW.q rfl (Qt.load (by kernel_rfl) rfl (map_at _ _ _ (by omega))) ?_ | refine LW.q rfl (Qt.load (by kernel_rfl) rfl (flat_cell0 _ _ _ (by intros; rfl) _ (by omega) (by rfl))) ?_ | refine LW.q rfl (Qt.load (by kernel_rfl) rfl (flat_cell _ _ _ (by intros; rfl) _ _ (by omega) (by rfl))) ?_ | refine LW.q rfl (Qt.load (by kernel_rfl) rfl (bytes_at _ _ (by omega))) ?_
   refine LW.q rfl (Qt.len (e := 60) (sz := 3) (by kernel_rfl) rfl) ?_
   refine LW.q rfl (Qt.neq rfl rfl) ?_
   refine LW.done ?_
   first | refine T.condF rfl ?_ | refine T.condPF rfl ((by simp)) ?_ | refine T.condBF rfl ((by simp)) ?_
   clear hrd hdv hC hsc
   refine T.skip ?_
   refine T.seq ?_
   refine T.region ?_
   refine LW.q rfl (Qt.move rfl) ?_
   refine LW.q rfl (Qt.len (e := 2) (sz := 1) (by kernel_rfl) rfl) ?_
   refine LW.q rfl (Qt.move rfl) ?_
   refine LW.done ?_
   refine T.block ?_
   refine T.loop (fun mz fz lz => ∃ (f0 : Fr) (j : Nat), (j ≤ n1) ∧ mz = n1 - j ∧ fz = (upd (upd (upd (upd (upd (upd (upd (upd f0 7 (.pointer (some ⟨g, 0, none⟩))) 8 (.pointer (some ⟨g8, 0, none⟩))) 12 (.slice p3 n1 c3)) 22 (.slice (some ⟨kb, ko, none⟩) sc.length scap)) 23 (.int .i64 sc.length)) 24 (.int .i64 k)) 64 (.int .i64 n1)) 65 (.int .i64 j)) ∧ lz = row (.slice p3 n1 c3) 2 1 n1 (m1.T.map fun x => kZ x.id) :: mgB g m1 :: actA m1 :: wrA m1 :: ksA m1.T :: rtR p1 n1 c1 r1.T :: rhR p2 n2 c2 r1.H :: poS Q1 :: blk g8 (rmL r1 p1 n1 c1 p2 n2 c2) 55 :: F) ?_ ?_
   · refine ⟨_, _, ⟨_, 0, Nat.zero_le _, rfl, (updS rfl (updS rfl (updS rfl (updS rfl (updS rfl (updS rfl (updS rfl (updS rfl rfl)))))))), rfl⟩, Sub.any⟩
   ·
    rintro mz fz lz ⟨f0, j, hj, hmz, rfl, rfl⟩
    subst mz
    try simp only [List.cons_append, List.nil_append]
    refine T.seq ?_
    refine T.region ?_
    refine LW.q rfl (Qt.lss rfl rfl) ?_
    refine LW.done ?_
    refine T.seq ?_
    refine T.condP rfl (fun hlt2 => ?_) (fun hlt2 => ?_)
    ·
     refine T.own (fun w ho => ?_)
     obtain ⟨g3, rfl⟩ := hp3 (by omega)
     obtain ⟨gt, rfl⟩ : ∃ g, p1 = some ⟨g, 0, none⟩ := (ho.slice_at (p := p1) (m := n1) (c := c1)).2.1 (by omega)
     clear ho
     obtain ⟨x, hx⟩ : ∃ x, m1.T[j]? = some x := ⟨_, List.getElem?_eq_getElem (by omega)⟩
     obtain ⟨y, hy, hy1, hy2⟩ := hS1.at_ hx
     refine T.skip ?_
     refine T.seq ?_
     refine T.block ?_
     refine T.seq ?_
     refine T.region ?_
     refine LW.q rfl (Qt.move rfl) ?_
     refine LW.q rfl (Qt.assign rfl) ?_
     refine LW.done ?_
     refine T.seq ?_
     refine T.drawAll 11 (by kernel_rfl) (Nat.le_of_ble_eq_true rfl) (by kernel_rfl) ?_
     refine RW.q 0 rfl rfl (by kernel_rfl) (Sub.refl _) (Qt.move rfl) ?_
     refine RW.q 1 rfl rfl (by kernel_rfl) (Sub.refl _) (Qt.move rfl) ?_
     refine RW.q 2 rfl rfl (by kernel_rfl) (Sub.refl _) (Qt.index _ (e := 2) (sz := 1) (by kernel_rfl) rfl rfl rfl (by omega)) ?_
     refine RW.q 3 rfl rfl (by kernel_rfl) (Sub.refl _) (Qt.load (v := .int .i64 x.id) (by kernel_rfl) rfl (by rw [Nat.zero_add, Nat.mul_one, List.getElem?_map, hx]; rfl)) ?_
     refine RW.q 4 rfl rfl (by kernel_rfl) (Sub.refl _) (Qt.fieldAddr (off := 3) (by kernel_rfl) rfl) ?_
     first | refine RW.q 5 rfl rfl (by kernel_rfl) (Sub.refl _) (Qt.load (by kernel_rfl) rfl rfl) ?_ | refine RW.q 5 rfl rfl (by kernel_rfl) (Sub.refl _) (Qt.load (by kernel_rfl) rfl (map_at _ _ _ (by omega))) ?_ | refine RW.q 5 rfl rfl (by kernel_rfl) (Sub.refl _) (Qt.load (by kernel_rfl) rfl (flat_cell0 _ _ _ (by intros; rfl) _ (by omega) (by rfl))) ?_ | refine RW.q 5 rfl rfl (by kernel_rfl) (Sub.refl _) (Qt.load (by kernel_rfl) rfl (flat_cell _ _ _ (by intros; rfl) _ _ (by omega) (by rfl))) ?_ | refine RW.q 5 rfl rfl (by kernel_rfl) (Sub.refl _) (Qt.load (by kernel_rfl) rfl (bytes_at _ _ (by omega))) ?_
     refine RW.q 6 rfl rfl (by kernel_rfl) (Sub.refl _) (Qt.move rfl) ?_
     refine RW.q 7 rfl rfl (by kernel_rfl) (Sub.refl _) (Qt.index _ (e := 60) (sz := 3) (by kernel_rfl) rfl rfl rfl (by omega)) ?_
     refine RW.q 8 rfl rfl (by kernel_rfl) (Sub.refl _) (Qt.fieldAddr0 (by kernel_rfl) rfl) ?_
     refine RW.q 9 rfl rfl (by kernel_rfl) (Sub.refl _) (Qt.load (v := .int .i64 y.id) (by kernel_rfl) rfl (by have := flat3 rtC (fun _ => rfl) hy 0 (by omega); simpa using this)) ?_
     refine RW.q 10 rfl rfl (by kernel_rfl) (Sub.refl _) (Qt.neq rfl rfl) ?_
     refine RW.done (by rfl) ?_
     simp only [List.drop_succ_cons, List.drop_zero, List.drop_nil]
     refine LW.done ?_
     first | refine T.condF rfl ?_ | refine T.condPF rfl ((by rw [hy1]; simp)) ?_ | refine T.condBF rfl ((by rw [hy1]; simp)) ?_
     refine T.skip ?_
     refine T.region ?_
     refine LW.q rfl (Qt.add rfl rfl (wr64 (by omega) (by omega))) ?_
     refine LW.q rfl (Qt.move rfl) ?_
     refine LW.done ?_
     refine ⟨_, ?_, _, ⟨_, j + 1, by omega, rfl, (updS rfl (updS rfl (updS rfl (updS rfl (updS rfl (updS rfl (updS rfl (updS rfl rfl)))))))), rfl⟩, Sub.any⟩
     first | omega | (simp; omega)
    ·
     refine T.exit ?_
     refine T.region ?_
     refine LW.q rfl (Qt.add rfl rfl (wr64 (by omega) (by omega))) ?_
     refine LW.q rfl (Qt.move rfl) ?_
     refine LW.done ?_
     refine ⟨_, ?_, _, ⟨_, k + 1, m1, r1, Q1, N + o.keys.length, p1, n1, c1, p2, n2, c2, ⟨by omega, hP1, by omega, hn1, hn2⟩, rfl, (updS rfl (updS rfl (updS rfl (updS rfl (updS rfl rfl))))), rfl⟩, Sub.any⟩
     first | omega | (simp; omega)
  ·
   refine T.exit ?_
   refine T.seq ?_
   refine T.region ?_
   refine LW.q rfl (Qt.assign rfl) ?_
   refine LW.done ?_
   refine T.ret ?_
   exact ⟨.inl rfl, _, _, res [_] rfl ⟨rvT rfl, trivial⟩, ⟨rfl, rfl⟩, Sub.any⟩
end Go.Proofs.Ytgfbjabjkjbnlaa

/- The law MvccPlays of annalslaw12 holds: for all arguments of bulk at most 1048576 the call returns true and the arguments read as before. Condition: the bound of the second form. -/
set_option linter.unusedSimpArgs false
set_option linter.unusedVariables false
namespace Go.Proofs.Ytgfbjabjkjbnlaa.mvccPlays
open Go.ChangeShapes Go.WideShapes Go.ChangeAt Go.RowKit
theorem sum_le_succ {α : Type} (f : α → Nat) : ∀ l : List α, (l.map f).sum ≤ (l.map fun x => f x + 1).sum
  | [] => by simp
  | a :: l => by simp only [List.map_cons, List.sum_cons]; have := sum_le_succ f l; omega
set_option maxRecDepth 100000 in
theorem contract (H : Type) (enc : TypeId × Value → H) (W : World) (base : Nat) (args : Array Value) (ds gs : List (DataW H)) (before : List MemPlace)
    (hval : ∀ (j : Nat) t v, Try.f7.params[j]? = some t → args[j]? = some v → Value.okWide Try.prog W .any base t v)
    (hW : DataW.Whole enc Try.prog Try.f7.params.toList Rows.mvccPlaysSpec.vars false W args.toList ds gs before) (hk : Rows.uptoSmall H (ds ++ gs) = true) :
    Calls Try.prog 7 args W fun e W' => ∃ v, e = .returned v ∧ Rows.mvccPlaysSpec.post enc Try.prog Try.f7 false true false false W args v W' := by
  have hW0 := hW
  obtain ⟨p, q, hA0, hV, rfl, hfz, hnd⟩ := hW
  have hA : DataW.TrodAll enc Try.prog W 0 (fun _ => true) true Try.f7.params.toList args.toList ds p := hA0
  rw [Try.params7] at hA hval
  obtain ⟨v0, v1, v2, d0, d1, d2, p0, p1, p2, rfl, rfl, rfl, h0, h1, h2⟩ := trodAll_three hA
  obtain ⟨rfl, rfl⟩ := trodVars_none hV
  have hbulk := Try.upto_bound hk
  rw [List.append_nil] at hbulk
  clear hA0 hV hk
  obtain ⟨a0, rfl, rfl, rfl, wf0⟩ := open_int Try.underlying2 (hval 0 2 v0 rfl rfl) h0
  obtain ⟨a1, rfl, rfl, rfl, wf1⟩ := open_int Try.underlying2 (hval 1 2 v1 rfl rfl) h1
  obtain ⟨sa2, sl2, sc2, rfl⟩ := okWide_slice Try.underlying22 (hval 2 22 v2 rfl rfl)
  obtain ⟨fu2, t2⟩ := h2
  obtain ⟨sv2, l2, hc2, hs2, hB2, hL2⟩ := open_slice_R (enc := enc) (P := Try.prog) (W := W) (R := OpMR W) (B := fun o => o.keys.length + 1) Try.underlying22 (show Try.prog.cellsOf 30 = 4 by kernel_rfl) (by omega) (fun n cs y => read_opM n cs y) t2
  simp only [Value.cells, List.cons.injEq, and_true] at hc2
  subst hc2
  dsimp only at hB2 hL2
  rw [bulk_three] at hbulk
  have hlen := len_le_sum (fun o : OpM => o.keys.length) l2
  have hsum := sum_le_succ (fun o : OpM => o.keys.length) l2
  have bd0 := Go.bounds_i64 wf0
  have bd1 := Go.bounds_i64 wf1

  refine (Fn.law (Mw.plays _ _ _ (by omega) (by omega) _ l2 hs2.roLM (by omega) (by omega))).mono fun e W' ⟨he, hg⟩ => ?_
  subst he
  exact ⟨_, rfl, post_law Try.laidOut hW0 rfl rfl 4 Try.underlying4 (by kernel_rfl) (by rw [Try.params7]; decide +kernel) hg.toBelow⟩

set_option maxRecDepth 100000 in
theorem lifted (os : Os) (started : os.Started) (H : Type) (enc : TypeId × Value → H) (F : Stop.Interp) :
    ReturnsInHanded {} Try.checked os 7 .any ((Rows.OpenSpec.upto Rows.mvccPlaysSpec).pre6 enc Try.prog Try.f7 Rows.mvccPlaysUptoRow.domain false) (((Rows.OpenSpec.upto Rows.mvccPlaysSpec).at F).post enc Try.prog Try.f7 false true false false) := by
  refine returnsInHanded_of_cond (C := Try.checked) (s := Rows.OpenSpec.upto Rows.mvccPlaysSpec) (k := Rows.uptoSmall) rfl Try.own started (by kernel_rfl) Try.func7
    (OpenSpec.witness (enc := enc) (C := Try.checked) (s := Rows.OpenSpec.upto Rows.mvccPlaysSpec) (k := Rows.uptoSmall) rfl false ⟨#[], #[.int .i64 0, .int .i64 0, .slice none 0 0], []⟩ 8 (by kernel_rfl) (by kernel_rfl) (by kernel_rfl)
      (x := ([.lit (.int .i64 0), .lit (.int .i64 0), .nil], [], [])) (by kernel_rfl) rfl (by kernel_rfl)) ?_
  intro W base args ds gs before hval hW _ hk _
  exact contract H enc W base args ds gs before hval hW hk

theorem over : Rows.mvccPlaysUptoRow.holds Try.pinned (Rows.OpenSpec.upto Rows.mvccPlaysSpec) :=
  OpenClaim.holds_of_cond 7 Try.f7 rfl rfl rfl rfl rfl rfl rfl ⟨rfl, rfl, rfl, rfl, rfl⟩ rfl rfl rfl rfl rfl (by kernel_rfl) Try.func7 (by kernel_rfl)
    (of_decide_eq_true (by kernel_rfl)) (by unfold Func.isWrapper; first | (rw [if_pos (by decide +kernel)]; kernel_rfl) | (rw [if_neg (by decide +kernel)]; exact ⟨rfl, rfl⟩))
    (fun os started H enc _ F => lifted os started H enc F)

theorem proved : Rows.MvccPlaysUptoSaid := over
end Go.Proofs.Ytgfbjabjkjbnlaa.mvccPlays
