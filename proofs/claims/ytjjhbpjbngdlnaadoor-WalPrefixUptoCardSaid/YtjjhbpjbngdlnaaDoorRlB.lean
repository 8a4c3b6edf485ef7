/- The document's log (annalsref05): Force. Conditions: sizes. -/
import Derived.Test.YtjjhbpjbngdlnaaDoorRlA
set_option linter.unusedSimpArgs false
set_option linter.unusedVariables false
namespace Go.Proofs.YtjjhbpjbngdlnaaDoor
open Go.RowKit

/-- What the document's flush writes, sector by sector. -/
def docLays (W : Wl) : DD → Nat → Nat → DD
  | D, _, 0 => D
  | D, n, k + 1 => docLays W (if W.dur < (n + 1) * 256 ∧ n * 256 < W.st.length then D.write (W.first + n) (secW W.st n) else D) (n + 1) k
theorem docLays_add (W : Wl) : ∀ (k1 k2 n : Nat) (D : DD), docLays W D n (k1 + k2) = docLays W (docLays W D n k1) (n + k1) k2
  | 0, k2, n, D => by rw [Nat.zero_add]; rfl
  | k1 + 1, k2, n, D => by
    rw [show k1 + 1 + k2 = (k1 + k2) + 1 by omega, docLays, docLays_add W k1 k2, docLays, show n + 1 + k1 = n + (k1 + 1) by omega]
theorem docLays_skip (W : Wl) : ∀ (k n : Nat) (D : DD), (∀ j, n ≤ j → j < n + k → ¬ (W.dur < (j + 1) * 256 ∧ j * 256 < W.st.length)) → docLays W D n k = D
  | 0, _, _, _ => rfl
  | k + 1, n, D, h => by
    rw [docLays, if_neg (h n (by omega) (by omega))]
    exact docLays_skip W k (n + 1) D (fun j h1 h2 => h j (by omega) (by omega))
theorem docLays_all (W : Wl) : ∀ (k n : Nat) (D : DD), (∀ j, n ≤ j → j < n + k → (W.dur < (j + 1) * 256 ∧ j * 256 < W.st.length)) → docLays W D n k = laysW W D n k
  | 0, _, _, _ => rfl
  | k + 1, n, D, h => by
    rw [docLays, if_pos (h n (by omega) (by omega)), laysW]
    exact docLays_all W k (n + 1) _ (fun j h1 h2 => h j (by omega) (by omega))
set_option maxRecDepth 100000 in
theorem docLays_eq (W : Wl) (D : DD) (hst : W.st.length ≤ W.count * 256) (hdur : W.dur ≤ W.st.length) : docLays W D 0 W.count = laysW W D (W.dur / 256) (flushN W) := by
  have e : W.count = W.dur / 256 + (flushN W + (W.count - (W.dur / 256 + flushN W))) := by unfold flushN; omega
  rw [e, docLays_add, docLays_add, docLays_skip W (W.dur / 256) 0 D (fun j h1 h2 => by omega), Nat.zero_add, docLays_all W (flushN W) (W.dur / 256) D (fun j h1 h2 => by unfold flushN at h2; omega), docLays_skip]
  intro j h1 h2
  unfold flushN at h1
  omega

set_option maxRecDepth 100000 in
theorem Rl.force_no (B : Base) (W : Wl) (p q : Option Addr) (a c N m : Nat) (mark : Int) (hst : W.st.length < 2 ^ 31) (h : mark ≤ W.dur ∨ W.dur = W.st.length) :
    Fn Tryd.prog B 33 #[.agg #[.slice p N a, .slice q m c], logV W, .int .i64 mark] [] (fun v l => v = .tuple #[.agg #[.slice p N a, .slice q m c], logV W] ∧ l = []) := by
  refine Fn.enter3 63 Tryd.func33 rfl rfl (Nat.le_of_ble_eq_true rfl) (fun F => ?_)
  try simp only [List.cons_append, List.nil_append]
  refine T.seq ?_
  refine T.region ?_
  refine LW.e rfl (Ef.box [_, _] rfl rfl ?_)
  intro g3
  refine LW.e rfl (Ef.box [_, _, _, _, _] rfl rfl ?_)
  intro g4
  refine LW.e rfl (Ef.alloc [.slice none 0 0, .slice none 0 0] (by unfold zeroB; kernel_rfl) ?_)
  intro g6
  refine LW.e rfl (Ef.alloc [.string .empty, .int .u32 0, .int .i64 0, .int .i64 0, .int .i64 0] (by unfold zeroB; kernel_rfl) ?_)
  intro g7
  refine LW.done ?_
  refine T.seq ?_
  refine T.seq ?_
  refine T.region ?_
  refine LW.q rfl (Qt.move rfl) ?_
  refine LW.q rfl (Qt.fieldAddr (off := 2) (by kernel_rfl) rfl) ?_
  first | refine LW.q rfl (Qt.load (by kernel_rfl) rfl rfl) ?_ | refine LW.q rfl (Qt.load (by kernel_rfl) rfl (map_at _ _ _ (by omega))) ?_ | refine LW.q rfl (Qt.load (by kernel_rfl) rfl (flat_cell0 _ _ _ (by intros; rfl) _ (by omega) (by rfl))) ?_ | refine LW.q rfl (Qt.load (by kernel_rfl) rfl (flat_cell _ _ _ (by intros; rfl) _ _ (by omega) (by rfl))) ?_ | refine LW.q rfl (Qt.load (by kernel_rfl) rfl (bytes_at _ _ (by omega))) ?_
  refine LW.q rfl (Qt.leq rfl rfl) ?_
  refine LW.q rfl (Qt.move rfl) ?_
  refine LW.split (t := 13) rfl (fun h1 => ?_) (fun h1 => ?_)
  · skip
    try replace h1 := of_decide_eq_true h1
    refine LW.s rfl ?_
    refine LW.s rfl ?_
    refine LW.s rfl ?_
    refine LW.s rfl ?_
    refine LW.s rfl ?_
    refine LW.s rfl ?_
    refine LW.q rfl (Qt.pick rfl rfl) ?_
    refine LW.done ?_
    first | refine T.condT rfl ?_ | refine T.condPT rfl (by omega) ?_ | refine T.condBT rfl (by omega) ?_
    refine T.seq ?_
    refine T.draw 3 ([blk g3 [.slice p N a, .slice q m c] 63, blk g4 [.string (strOf W.st), .int .u32 W.sum.toNat, .int .i64 W.dur, .int .i64 W.first, .int .i64 W.count] 68]) (by kernel_rfl) (Nat.le_of_ble_eq_true rfl) (by kernel_rfl) ?_
    first | refine RW.q 0 rfl rfl (by kernel_rfl) Sub.any (Qt.loadAgg [_, _] (by kernel_rfl) rfl ⟨rfl, rfl, trivial⟩) ?_ | refine RW.q 0 rfl rfl (by kernel_rfl) Sub.any (Qt.loadAgg [_, _] (by kernel_rfl) rfl (by exact rdl_flat _ _ _ (by intros; rfl) _ (by omega))) ?_
    first | refine RW.q 1 rfl rfl (by kernel_rfl) Sub.any (Qt.loadAgg [_, _, _, _, _] (by kernel_rfl) rfl ⟨rfl, rfl, rfl, rfl, rfl, trivial⟩) ?_ | refine RW.q 1 rfl rfl (by kernel_rfl) Sub.any (Qt.loadAgg [_, _, _, _, _] (by kernel_rfl) rfl (by exact rdl_flat _ _ _ (by intros; rfl) _ (by omega))) ?_
    refine RW.one 2 (by kernel_rfl) ?_
    refine RO.eS0 rfl rfl (Ef.store [_, _] (by kernel_rfl) rfl rfl rfl rfl (by simp) ?_)
    try simp only [splice, List.length_cons, List.length_nil, List.drop_succ_cons, List.cons_append, List.take_succ_cons, List.take_zero, List.drop_zero, List.nil_append, List.append_nil]
    refine ⟨Sub.any, ?_⟩
    refine RW.done (by rfl) ?_
    simp only [List.drop_succ_cons, List.drop_zero, List.drop_nil]
    refine LW.e0 rfl (Ef.store [_, _, _, _, _] (by kernel_rfl) rfl rfl rfl rfl (by simp) ?_)
    try simp only [splice, List.length_cons, List.length_nil, List.drop_succ_cons, List.cons_append, List.take_succ_cons, List.take_zero, List.drop_zero, List.nil_append, List.append_nil]
    refine LW.done ?_
    refine T.ret ?_
    exact ⟨.inl rfl, _, _, res [_, _] rfl ⟨rvA [_, _] (by kernel_rfl) rfl ⟨rfl, rfl, trivial⟩, rvA [_, _, _, _, _] (by kernel_rfl) rfl ⟨rfl, rfl, rfl, rfl, rfl, trivial⟩, trivial⟩, ⟨rfl, rfl⟩, Sub.any⟩
  · skip
    try replace h1 := of_decide_eq_false h1
    refine LW.q rfl (Qt.fieldAddr (off := 2) (by kernel_rfl) rfl) ?_
    first | refine LW.q rfl (Qt.load (by kernel_rfl) rfl rfl) ?_ | refine LW.q rfl (Qt.load (by kernel_rfl) rfl (map_at _ _ _ (by omega))) ?_ | refine LW.q rfl (Qt.load (by kernel_rfl) rfl (flat_cell0 _ _ _ (by intros; rfl) _ (by omega) (by rfl))) ?_ | refine LW.q rfl (Qt.load (by kernel_rfl) rfl (flat_cell _ _ _ (by intros; rfl) _ _ (by omega) (by rfl))) ?_ | refine LW.q rfl (Qt.load (by kernel_rfl) rfl (bytes_at _ _ (by omega))) ?_
    refine LW.q rfl (Qt.fieldAddr0 (by kernel_rfl) rfl) ?_
    first | refine LW.q rfl (Qt.load (by kernel_rfl) rfl rfl) ?_ | refine LW.q rfl (Qt.load (by kernel_rfl) rfl (map_at _ _ _ (by omega))) ?_ | refine LW.q rfl (Qt.load (by kernel_rfl) rfl (flat_cell0 _ _ _ (by intros; rfl) _ (by omega) (by rfl))) ?_ | refine LW.q rfl (Qt.load (by kernel_rfl) rfl (flat_cell _ _ _ (by intros; rfl) _ _ (by omega) (by rfl))) ?_ | refine LW.q rfl (Qt.load (by kernel_rfl) rfl (bytes_at _ _ (by omega))) ?_
    first | refine LW.q rfl (Qt.lenSt (by kernel_rfl) rfl) ?_ | refine LW.q rfl (Qt.lenS (by kernel_rfl) rfl) ?_
    refine LW.q rfl (Qt.eql rfl rfl) ?_
    refine LW.q rfl (Qt.pick rfl rfl) ?_
    refine LW.done ?_
    first | refine T.condT rfl ?_ | refine T.condPT rfl (by omega) ?_ | refine T.condBT rfl (by omega) ?_
    refine T.seq ?_
    refine T.draw 3 ([blk g3 [.slice p N a, .slice q m c] 63, blk g4 [.string (strOf W.st), .int .u32 W.sum.toNat, .int .i64 W.dur, .int .i64 W.first, .int .i64 W.count] 68]) (by kernel_rfl) (Nat.le_of_ble_eq_true rfl) (by kernel_rfl) ?_
    first | refine RW.q 0 rfl rfl (by kernel_rfl) Sub.any (Qt.loadAgg [_, _] (by kernel_rfl) rfl ⟨rfl, rfl, trivial⟩) ?_ | refine RW.q 0 rfl rfl (by kernel_rfl) Sub.any (Qt.loadAgg [_, _] (by kernel_rfl) rfl (by exact rdl_flat _ _ _ (by intros; rfl) _ (by omega))) ?_
    first | refine RW.q 1 rfl rfl (by kernel_rfl) Sub.any (Qt.loadAgg [_, _, _, _, _] (by kernel_rfl) rfl ⟨rfl, rfl, rfl, rfl, rfl, trivial⟩) ?_ | refine RW.q 1 rfl rfl (by kernel_rfl) Sub.any (Qt.loadAgg [_, _, _, _, _] (by kernel_rfl) rfl (by exact rdl_flat _ _ _ (by intros; rfl) _ (by omega))) ?_
    refine RW.one 2 (by kernel_rfl) ?_
    refine RO.eS0 rfl rfl (Ef.store [_, _] (by kernel_rfl) rfl rfl rfl rfl (by simp) ?_)
    try simp only [splice, List.length_cons, List.length_nil, List.drop_succ_cons, List.cons_append, List.take_succ_cons, List.take_zero, List.drop_zero, List.nil_append, List.append_nil]
    refine ⟨Sub.any, ?_⟩
    refine RW.done (by rfl) ?_
    simp only [List.drop_succ_cons, List.drop_zero, List.drop_nil]
    refine LW.e0 rfl (Ef.store [_, _, _, _, _] (by kernel_rfl) rfl rfl rfl rfl (by simp) ?_)
    try simp only [splice, List.length_cons, List.length_nil, List.drop_succ_cons, List.cons_append, List.take_succ_cons, List.take_zero, List.drop_zero, List.nil_append, List.append_nil]
    refine LW.done ?_
    refine T.ret ?_
    exact ⟨.inl rfl, _, _, res [_, _] rfl ⟨rvA [_, _] (by kernel_rfl) rfl ⟨rfl, rfl, trivial⟩, rvA [_, _, _, _, _] (by kernel_rfl) rfl ⟨rfl, rfl, rfl, rfl, rfl, trivial⟩, trivial⟩, ⟨rfl, rfl⟩, Sub.any⟩

set_option maxHeartbeats 2000000 in
set_option maxRecDepth 100000 in
theorem Rl.force (B : Base) (W : Wl) (D : DD) (p q : Option Addr) (a c N m : Nat) (hN : D.secs.length = N) (hm : D.pend.length = m) (mark : Int) (hD : D.Ok) (hroom : m + 4096 < 2 ^ 32) (hfc : W.first + W.count ≤ N) (hst : W.st.length ≤ W.count * 256) (hdur : W.dur ≤ W.st.length) (h1 : W.dur < mark) (h2 : W.dur ≠ W.st.length) :
    Fn Tryd.prog B 33 #[.agg #[.slice p N a, .slice q m c], logV W, .int .i64 mark] [rS (.slice p N a) N D.secs, rW (.slice q m c) m D.pend]
      (fun v l => ∃ p' a', v = .tuple #[.agg #[.slice p' N a', .slice none 0 0], logV W.flushed] ∧ l = [rS (.slice p' N a') N (flushD W D).secs, rW (.slice none 0 0) 0 []]) := by
  have hN2 : N ≤ 4096 := by rw [← hN]; exact hD.max
  refine Fn.enter3 63 Tryd.func33 rfl rfl (Nat.le_of_ble_eq_true rfl) (fun F => ?_)
  try simp only [List.cons_append, List.nil_append]
  refine T.seq ?_
  refine T.region ?_
  refine LW.e rfl (Ef.box [_, _] rfl rfl ?_)
  intro g3
  refine LW.e rfl (Ef.box [_, _, _, _, _] rfl rfl ?_)
  intro g4
  refine LW.e rfl (Ef.alloc [.slice none 0 0, .slice none 0 0] (by unfold zeroB; kernel_rfl) ?_)
  intro g6
  refine LW.e rfl (Ef.alloc [.string .empty, .int .u32 0, .int .i64 0, .int .i64 0, .int .i64 0] (by unfold zeroB; kernel_rfl) ?_)
  intro g7
  refine LW.done ?_
  refine T.seq ?_
  refine T.seq ?_
  refine T.region ?_
  refine LW.q rfl (Qt.move rfl) ?_
  refine LW.q rfl (Qt.fieldAddr (off := 2) (by kernel_rfl) rfl) ?_
  first | refine LW.q rfl (Qt.load (by kernel_rfl) rfl rfl) ?_ | refine LW.q rfl (Qt.load (by kernel_rfl) rfl (map_at _ _ _ (by omega))) ?_ | refine LW.q rfl (Qt.load (by kernel_rfl) rfl (flat_cell0 _ _ _ (by intros; rfl) _ (by omega) (by rfl))) ?_ | refine LW.q rfl (Qt.load (by kernel_rfl) rfl (flat_cell _ _ _ (by intros; rfl) _ _ (by omega) (by rfl))) ?_ | refine LW.q rfl (Qt.load (by kernel_rfl) rfl (bytes_at _ _ (by omega))) ?_
  refine LW.q rfl (Qt.leq rfl rfl) ?_
  refine LW.q rfl (Qt.move rfl) ?_
  first | refine LW.gF (t := 13) rfl rfl ?_ | refine LW.gF (t := 13) rfl (decide_eq_false (by omega)) ?_ | refine LW.gF (t := 13) rfl (by omega) ?_
  refine LW.q rfl (Qt.fieldAddr (off := 2) (by kernel_rfl) rfl) ?_
  first | refine LW.q rfl (Qt.load (by kernel_rfl) rfl rfl) ?_ | refine LW.q rfl (Qt.load (by kernel_rfl) rfl (map_at _ _ _ (by omega))) ?_ | refine LW.q rfl (Qt.load (by kernel_rfl) rfl (flat_cell0 _ _ _ (by intros; rfl) _ (by omega) (by rfl))) ?_ | refine LW.q rfl (Qt.load (by kernel_rfl) rfl (flat_cell _ _ _ (by intros; rfl) _ _ (by omega) (by rfl))) ?_ | refine LW.q rfl (Qt.load (by kernel_rfl) rfl (bytes_at _ _ (by omega))) ?_
  refine LW.q rfl (Qt.fieldAddr0 (by kernel_rfl) rfl) ?_
  first | refine LW.q rfl (Qt.load (by kernel_rfl) rfl rfl) ?_ | refine LW.q rfl (Qt.load (by kernel_rfl) rfl (map_at _ _ _ (by omega))) ?_ | refine LW.q rfl (Qt.load (by kernel_rfl) rfl (flat_cell0 _ _ _ (by intros; rfl) _ (by omega) (by rfl))) ?_ | refine LW.q rfl (Qt.load (by kernel_rfl) rfl (flat_cell _ _ _ (by intros; rfl) _ _ (by omega) (by rfl))) ?_ | refine LW.q rfl (Qt.load (by kernel_rfl) rfl (bytes_at _ _ (by omega))) ?_
  first | refine LW.q rfl (Qt.lenSt (by kernel_rfl) rfl) ?_ | refine LW.q rfl (Qt.lenS (by kernel_rfl) rfl) ?_
  refine LW.q rfl (Qt.eql rfl rfl) ?_
  refine LW.q rfl (Qt.pick rfl rfl) ?_
  refine LW.done ?_
  first | refine T.condF rfl ?_ | refine T.condPF rfl (by omega) ?_ | refine T.condBF rfl (by omega) ?_
  refine T.skip ?_
  refine T.seq ?_
  refine T.seq ?_
  refine T.region ?_
  refine LW.q rfl (Qt.assign rfl) ?_
  refine LW.done ?_
  refine T.block ?_
  refine T.loop (fun mz fz lz => ∃ (f0 : Fr) (n : Nat) (D' : DD) (p q : Option Addr) (a c m' : Nat), (n ≤ W.count ∧ D'.Ok ∧ D'.secs.length = N ∧ D'.pend.length = m' ∧ m' ≤ m + n ∧ docLays W D' n (W.count - n) = docLays W D 0 W.count) ∧ mz = W.count - n ∧ fz = (upd (upd (upd (upd (upd f0 3 (.pointer (some ⟨g3, 0, none⟩))) 4 (.pointer (some ⟨g4, 0, none⟩))) 6 (.pointer (some ⟨g6, 0, none⟩))) 7 (.pointer (some ⟨g7, 0, none⟩))) 8 (.int .i64 n)) ∧ lz = rS (.slice p N a) N D'.secs :: rW (.slice q m' c) m' D'.pend :: blk g3 [.slice p N a, .slice q m' c] 63 :: blk g4 [.string (strOf W.st), .int .u32 W.sum.toNat, .int .i64 W.dur, .int .i64 W.first, .int .i64 W.count] 68 :: blk g6 [.slice none 0 0, .slice none 0 0] 63 :: blk g7 [.string ByteArray.empty, .int .u32 0, .int .i64 0, .int .i64 0, .int .i64 0] 68 :: F) ?_ ?_
  · refine ⟨_, _, ⟨_, 0, D, p, q, a, c, m, ⟨Nat.zero_le _, hD, hN, hm, by omega, by rw [Nat.sub_zero]⟩, rfl, (updS rfl (updS rfl (updS rfl (updS rfl (updS rfl rfl))))), rfl⟩, Sub.any⟩
  · skip
    rintro mz fz lz ⟨f0, n, D', p, q, a, c, m', ⟨hn, ho, hsl, hpl, hpm, hlay⟩, hmz, rfl, rfl⟩
    subst mz
    try simp only [List.cons_append, List.nil_append]
    refine T.seq ?_
    refine T.seq ?_
    refine T.region ?_
    refine LW.q rfl (Qt.move rfl) ?_
    refine LW.q rfl (Qt.fieldAddr (off := 4) (by kernel_rfl) rfl) ?_
    first | refine LW.q rfl (Qt.load (by kernel_rfl) rfl rfl) ?_ | refine LW.q rfl (Qt.load (by kernel_rfl) rfl (map_at _ _ _ (by omega))) ?_ | refine LW.q rfl (Qt.load (by kernel_rfl) rfl (flat_cell0 _ _ _ (by intros; rfl) _ (by omega) (by rfl))) ?_ | refine LW.q rfl (Qt.load (by kernel_rfl) rfl (flat_cell _ _ _ (by intros; rfl) _ _ (by omega) (by rfl))) ?_ | refine LW.q rfl (Qt.load (by kernel_rfl) rfl (bytes_at _ _ (by omega))) ?_
    refine LW.q rfl (Qt.lss rfl rfl) ?_
    refine LW.done ?_
    refine T.condP rfl (fun hlt => ?_) (fun hlt => ?_)
    · skip
      have hstep : docLays W D' n (W.count - n) = docLays W (if W.dur < (n + 1) * 256 ∧ n * 256 < W.st.length then D'.write (W.first + n) (secW W.st n) else D') (n + 1) (W.count - (n + 1)) := by rw [show W.count - n = (W.count - (n + 1)) + 1 by omega, docLays]
      refine T.skip ?_
      refine T.seq ?_
      refine T.block ?_
      refine T.seq ?_
      refine T.region ?_
      refine LW.q rfl (Qt.move rfl) ?_
      refine LW.q rfl (Qt.add rfl rfl (wr64 (by omega) (by omega))) ?_
      refine LW.q rfl (Qt.mul rfl rfl (wr64 (by omega) (by omega))) ?_
      refine LW.q rfl (Qt.fieldAddr (off := 2) (by kernel_rfl) rfl) ?_
      first | refine LW.q rfl (Qt.load (by kernel_rfl) rfl rfl) ?_ | refine LW.q rfl (Qt.load (by kernel_rfl) rfl (map_at _ _ _ (by omega))) ?_ | refine LW.q rfl (Qt.load (by kernel_rfl) rfl (flat_cell0 _ _ _ (by intros; rfl) _ (by omega) (by rfl))) ?_ | refine LW.q rfl (Qt.load (by kernel_rfl) rfl (flat_cell _ _ _ (by intros; rfl) _ _ (by omega) (by rfl))) ?_ | refine LW.q rfl (Qt.load (by kernel_rfl) rfl (bytes_at _ _ (by omega))) ?_
      refine LW.q rfl (Qt.gtr rfl rfl) ?_
      refine LW.q rfl (Qt.move rfl) ?_
      refine LW.split (t := 35) rfl (fun hc1 => ?_) (fun hc1 => ?_)
      · skip
        try replace hc1 := of_decide_eq_true hc1
        refine LW.q rfl (Qt.move rfl) ?_
        refine LW.q rfl (Qt.mul rfl rfl (wr64 (by omega) (by omega))) ?_
        refine LW.q rfl (Qt.fieldAddr0 (by kernel_rfl) rfl) ?_
        first | refine LW.q rfl (Qt.load (by kernel_rfl) rfl rfl) ?_ | refine LW.q rfl (Qt.load (by kernel_rfl) rfl (map_at _ _ _ (by omega))) ?_ | refine LW.q rfl (Qt.load (by kernel_rfl) rfl (flat_cell0 _ _ _ (by intros; rfl) _ (by omega) (by rfl))) ?_ | refine LW.q rfl (Qt.load (by kernel_rfl) rfl (flat_cell _ _ _ (by intros; rfl) _ _ (by omega) (by rfl))) ?_ | refine LW.q rfl (Qt.load (by kernel_rfl) rfl (bytes_at _ _ (by omega))) ?_
        first | refine LW.q rfl (Qt.lenSt (by kernel_rfl) rfl) ?_ | refine LW.q rfl (Qt.lenS (by kernel_rfl) rfl) ?_
        refine LW.q rfl (Qt.lss rfl rfl) ?_
        refine LW.q rfl (Qt.pick rfl rfl) ?_
        refine LW.done ?_
        refine T.condP rfl (fun hc2 => ?_) (fun hc2 => ?_)
        · skip
          rw [if_pos ⟨by omega, by omega⟩] at hstep
          refine T.drawBl 13 (some g3) (by kernel_rfl) (Nat.le_of_ble_eq_true rfl) (by kernel_rfl) ?_
          refine RW.q 1 rfl rfl (by kernel_rfl) Sub.any (Qt.fieldAddr (off := 3) (by kernel_rfl) rfl) ?_
          first | refine RW.q 2 rfl rfl (by kernel_rfl) Sub.any (Qt.load (by kernel_rfl) rfl rfl) ?_ | refine RW.q 2 rfl rfl (by kernel_rfl) Sub.any (Qt.load (by kernel_rfl) rfl (map_at _ _ _ (by omega))) ?_ | refine RW.q 2 rfl rfl (by kernel_rfl) Sub.any (Qt.load (by kernel_rfl) rfl (flat_cell0 _ _ _ (by intros; rfl) _ (by omega) (by rfl))) ?_ | refine RW.q 2 rfl rfl (by kernel_rfl) Sub.any (Qt.load (by kernel_rfl) rfl (flat_cell _ _ _ (by intros; rfl) _ _ (by omega) (by rfl))) ?_ | refine RW.q 2 rfl rfl (by kernel_rfl) Sub.any (Qt.load (by kernel_rfl) rfl (bytes_at _ _ (by omega))) ?_
          refine RW.q 3 rfl rfl (by kernel_rfl) Sub.any (Qt.move rfl) ?_
          refine RW.q 4 rfl rfl (by kernel_rfl) Sub.any (Qt.add rfl rfl (wr64 (by omega) (by omega))) ?_
          first | refine RW.q 5 rfl rfl (by kernel_rfl) Sub.any (Qt.loadAgg [_, _, _, _, _] (by kernel_rfl) rfl ⟨rfl, rfl, rfl, rfl, rfl, trivial⟩) ?_ | refine RW.q 5 rfl rfl (by kernel_rfl) Sub.any (Qt.loadAgg [_, _, _, _, _] (by kernel_rfl) rfl (by exact rdl_flat _ _ _ (by intros; rfl) _ (by omega))) ?_
          refine RW.q 6 rfl rfl (by kernel_rfl) Sub.any (Qt.move rfl) ?_
          refine RW.all [0, 7] (by kernel_rfl) (List.forall_mem_cons.2 ⟨?_, List.forall_mem_cons.2 ⟨?_, List.forall_mem_nil _⟩⟩)
          · skip
            first | refine RO.eS rfl rfl (Ef.qt (Qt.loadAgg [_, _] (by kernel_rfl) rfl ⟨rfl, rfl, trivial⟩) ?_) | refine RO.eS rfl rfl (Ef.qt (Qt.loadAgg [_, _] (by kernel_rfl) rfl (by exact rdl_flat _ _ _ (by intros; rfl) _ (by omega))) ?_)
            refine ⟨Sub.any, ?_⟩
            refine RW.one 7 (by kernel_rfl) ?_
            refine RO.eS rfl rfl (Ef.call (Rl.sector B W n n rfl (by omega) (by omega)) Tryd.func66 rfl rfl rfl ?_)
            rintro _ _ ⟨rfl, rfl⟩
            try simp only [List.cons_append, List.nil_append]
            refine ⟨Sub.any, ?_⟩
            refine RW.one 8 (by kernel_rfl) ?_
            refine RO.eS rfl rfl (Ef.call (Rf.put B p q a c N m' (W.first + n) (W.first + n) (by omega) (secW W.st n) D'.secs D'.pend (by omega) (by omega) (by omega) (length_secW _ _)) Tryd.func36 rfl rfl rfl ?_)
            rintro _ _ ⟨p1, a1, q1, c1, rfl, rfl⟩
            try simp only [List.cons_append, List.nil_append]
            refine ⟨Sub.any, ?_⟩
            refine RW.q 9 rfl rfl (by kernel_rfl) Sub.any (Qt.move rfl) ?_
            refine RW.q 10 rfl rfl (by kernel_rfl) Sub.any (Qt.extract rfl rfl) ?_
            refine RW.q 11 rfl rfl (by kernel_rfl) Sub.any (Qt.extract rfl rfl) ?_
            refine RW.one 12 (by kernel_rfl) ?_
            refine RO.eS0 rfl rfl (Ef.store [_, _] (by kernel_rfl) rfl rfl rfl rfl (by simp) ?_)
            try simp only [splice, List.length_cons, List.length_nil, List.drop_succ_cons, List.cons_append, List.take_succ_cons, List.take_zero, List.drop_zero, List.nil_append, List.append_nil]
            refine ⟨Sub.any, ?_⟩
            refine RW.done (by rfl) ?_
            simp only [List.drop_succ_cons, List.drop_zero, List.drop_nil]
            refine LW.done ?_
            refine T.region ?_
            refine LW.q rfl (Qt.move rfl) ?_
            refine LW.q rfl (Qt.add rfl rfl (wr64 (by omega) (by omega))) ?_
            refine LW.q rfl (Qt.assign rfl) ?_
            refine LW.done ?_
            refine ⟨_, ?_, _, ⟨_, n + 1, ⟨D'.secs, D'.pend ++ [(W.first + n, secW W.st n)]⟩, p1, q1, a1, c1, m' + 1, ⟨by omega, ho.wr2 _ _ (by omega) (length_secW _ _), hsl, by simp [hpl], by omega, by rw [hstep] at hlay; exact hlay⟩, rfl, (updS rfl (updS rfl (updS rfl (updS rfl (updS rfl rfl))))), rfl⟩, Sub.any⟩
            first | omega | (simp; omega)
          · skip
            refine RO.eS rfl rfl (Ef.call (Rl.sector B W n n rfl (by omega) (by omega)) Tryd.func66 rfl rfl rfl ?_)
            rintro _ _ ⟨rfl, rfl⟩
            try simp only [List.cons_append, List.nil_append]
            refine ⟨Sub.any, ?_⟩
            refine RW.one 0 (by kernel_rfl) ?_
            first | refine RO.eS rfl rfl (Ef.qt (Qt.loadAgg [_, _] (by kernel_rfl) rfl ⟨rfl, rfl, trivial⟩) ?_) | refine RO.eS rfl rfl (Ef.qt (Qt.loadAgg [_, _] (by kernel_rfl) rfl (by exact rdl_flat _ _ _ (by intros; rfl) _ (by omega))) ?_)
            refine ⟨Sub.any, ?_⟩
            refine RW.one 8 (by kernel_rfl) ?_
            refine RO.eS rfl rfl (Ef.call (Rf.put B p q a c N m' (W.first + n) (W.first + n) (by omega) (secW W.st n) D'.secs D'.pend (by omega) (by omega) (by omega) (length_secW _ _)) Tryd.func36 rfl rfl rfl ?_)
            rintro _ _ ⟨p1, a1, q1, c1, rfl, rfl⟩
            try simp only [List.cons_append, List.nil_append]
            refine ⟨Sub.any, ?_⟩
            refine RW.q 9 rfl rfl (by kernel_rfl) Sub.any (Qt.move rfl) ?_
            refine RW.q 10 rfl rfl (by kernel_rfl) Sub.any (Qt.extract rfl rfl) ?_
            refine RW.q 11 rfl rfl (by kernel_rfl) Sub.any (Qt.extract rfl rfl) ?_
            refine RW.one 12 (by kernel_rfl) ?_
            refine RO.eS0 rfl rfl (Ef.store [_, _] (by kernel_rfl) rfl rfl rfl rfl (by simp) ?_)
            try simp only [splice, List.length_cons, List.length_nil, List.drop_succ_cons, List.cons_append, List.take_succ_cons, List.take_zero, List.drop_zero, List.nil_append, List.append_nil]
            refine ⟨Sub.any, ?_⟩
            refine RW.done (by rfl) ?_
            simp only [List.drop_succ_cons, List.drop_zero, List.drop_nil]
            refine LW.done ?_
            refine T.region ?_
            refine LW.q rfl (Qt.move rfl) ?_
            refine LW.q rfl (Qt.add rfl rfl (wr64 (by omega) (by omega))) ?_
            refine LW.q rfl (Qt.assign rfl) ?_
            refine LW.done ?_
            refine ⟨_, ?_, _, ⟨_, n + 1, ⟨D'.secs, D'.pend ++ [(W.first + n, secW W.st n)]⟩, p1, q1, a1, c1, m' + 1, ⟨by omega, ho.wr2 _ _ (by omega) (length_secW _ _), hsl, by simp [hpl], by omega, by rw [hstep] at hlay; exact hlay⟩, rfl, (updS rfl (updS rfl (updS rfl (updS rfl (updS rfl rfl))))), rfl⟩, Sub.any⟩
            first | omega | (simp; omega)
        · skip
          rw [if_neg (by omega)] at hstep
          refine T.skip ?_
          refine T.region ?_
          refine LW.q rfl (Qt.move rfl) ?_
          refine LW.q rfl (Qt.add rfl rfl (wr64 (by omega) (by omega))) ?_
          refine LW.q rfl (Qt.assign rfl) ?_
          refine LW.done ?_
          refine ⟨_, ?_, _, ⟨_, n + 1, D', p, q, a, c, m', ⟨by omega, ho, hsl, hpl, by omega, by rw [← hstep]; exact hlay⟩, rfl, (updS rfl (updS rfl (updS rfl (updS rfl (updS rfl rfl))))), rfl⟩, Sub.any⟩
          first | omega | (simp; omega)
      · skip
        try replace hc1 := of_decide_eq_false hc1
        refine LW.s rfl ?_
        refine LW.s rfl ?_
        refine LW.s rfl ?_
        refine LW.s rfl ?_
        refine LW.s rfl ?_
        refine LW.s rfl ?_
        refine LW.q rfl (Qt.pick rfl rfl) ?_
        refine LW.done ?_
        first | refine T.condF rfl ?_ | refine T.condPF rfl (by omega) ?_ | refine T.condBF rfl (by omega) ?_
        rw [if_neg (by omega)] at hstep
        refine T.skip ?_
        refine T.region ?_
        refine LW.q rfl (Qt.move rfl) ?_
        refine LW.q rfl (Qt.add rfl rfl (wr64 (by omega) (by omega))) ?_
        refine LW.q rfl (Qt.assign rfl) ?_
        refine LW.done ?_
        refine ⟨_, ?_, _, ⟨_, n + 1, D', p, q, a, c, m', ⟨by omega, ho, hsl, hpl, by omega, by rw [← hstep]; exact hlay⟩, rfl, (updS rfl (updS rfl (updS rfl (updS rfl (updS rfl rfl))))), rfl⟩, Sub.any⟩
        first | omega | (simp; omega)
    · skip
      obtain rfl : n = W.count := by omega
      rw [Nat.sub_self, docLays_eq W D hst hdur] at hlay
      refine T.exit ?_
      refine T.seq ?_
      refine T.region ?_
      first | refine LW.q rfl (Qt.loadAgg [_, _] (by kernel_rfl) rfl ⟨rfl, rfl, trivial⟩) ?_ | refine LW.q rfl (Qt.loadAgg [_, _] (by kernel_rfl) rfl (by exact rdl_flat _ _ _ (by intros; rfl) _ (by omega))) ?_
      refine LW.e rfl (Ef.call (Rf.crash B p q a c N m' true (.slice none 0 0) [] 0 0 D'.secs D'.pend ho (by omega) ⟨none, 0, rfl, .inl rfl⟩) Tryd.func38 rfl rfl rfl ?_)
      rintro _ _ ⟨p1, a1, rfl, rfl⟩
      try simp only [List.cons_append, List.nil_append]
      have hsec : DD.lays ⟨D'.secs, D'.pend⟩ (fun i => some (rAmt true [] 0 0 i)) m' = (flushD W D).secs := by rw [lays_all, flushD, ← hlay, ← hpl]; rfl
      rw [hsec]
      refine LW.e0 rfl (Ef.store [_, _] (by kernel_rfl) rfl rfl rfl rfl (by simp) ?_)
      try simp only [splice, List.length_cons, List.length_nil, List.drop_succ_cons, List.cons_append, List.take_succ_cons, List.take_zero, List.drop_zero, List.nil_append, List.append_nil]
      refine LW.done ?_
      refine T.seq ?_
      refine T.region ?_
      refine LW.q rfl (Qt.fieldAddr0 (by kernel_rfl) rfl) ?_
      first | refine LW.q rfl (Qt.load (by kernel_rfl) rfl rfl) ?_ | refine LW.q rfl (Qt.load (by kernel_rfl) rfl (map_at _ _ _ (by omega))) ?_ | refine LW.q rfl (Qt.load (by kernel_rfl) rfl (flat_cell0 _ _ _ (by intros; rfl) _ (by omega) (by rfl))) ?_ | refine LW.q rfl (Qt.load (by kernel_rfl) rfl (flat_cell _ _ _ (by intros; rfl) _ _ (by omega) (by rfl))) ?_ | refine LW.q rfl (Qt.load (by kernel_rfl) rfl (bytes_at _ _ (by omega))) ?_
      first | refine LW.q rfl (Qt.lenSt (by kernel_rfl) rfl) ?_ | refine LW.q rfl (Qt.lenS (by kernel_rfl) rfl) ?_
      refine LW.q rfl (Qt.fieldAddr (off := 2) (by kernel_rfl) rfl) ?_
      refine LW.e0 rfl (Ef.store1 (by kernel_rfl) rfl rfl rfl (by first | (simp; done) | (simp; omega)) ?_)
      try simp only [List.set_cons_zero, List.set_cons_succ]
      refine LW.done ?_
      refine T.seq ?_
      refine T.draw 3 ([blk g3 [.slice p1 N a1, .slice none 0 0] 63, blk g4 [.string (strOf W.st), .int .u32 W.sum.toNat, .int .i64 W.st.length, .int .i64 W.first, .int .i64 W.count] 68]) (by kernel_rfl) (Nat.le_of_ble_eq_true rfl) (by kernel_rfl) ?_
      first | refine RW.q 0 rfl rfl (by kernel_rfl) Sub.any (Qt.loadAgg [_, _] (by kernel_rfl) rfl ⟨rfl, rfl, trivial⟩) ?_ | refine RW.q 0 rfl rfl (by kernel_rfl) Sub.any (Qt.loadAgg [_, _] (by kernel_rfl) rfl (by exact rdl_flat _ _ _ (by intros; rfl) _ (by omega))) ?_
      first | refine RW.q 1 rfl rfl (by kernel_rfl) Sub.any (Qt.loadAgg [_, _, _, _, _] (by kernel_rfl) rfl ⟨rfl, rfl, rfl, rfl, rfl, trivial⟩) ?_ | refine RW.q 1 rfl rfl (by kernel_rfl) Sub.any (Qt.loadAgg [_, _, _, _, _] (by kernel_rfl) rfl (by exact rdl_flat _ _ _ (by intros; rfl) _ (by omega))) ?_
      refine RW.one 2 (by kernel_rfl) ?_
      refine RO.eS0 rfl rfl (Ef.store [_, _] (by kernel_rfl) rfl rfl rfl rfl (by simp) ?_)
      try simp only [splice, List.length_cons, List.length_nil, List.drop_succ_cons, List.cons_append, List.take_succ_cons, List.take_zero, List.drop_zero, List.nil_append, List.append_nil]
      refine ⟨Sub.any, ?_⟩
      refine RW.done (by rfl) ?_
      simp only [List.drop_succ_cons, List.drop_zero, List.drop_nil]
      refine LW.e0 rfl (Ef.store [_, _, _, _, _] (by kernel_rfl) rfl rfl rfl rfl (by simp) ?_)
      try simp only [splice, List.length_cons, List.length_nil, List.drop_succ_cons, List.cons_append, List.take_succ_cons, List.take_zero, List.drop_zero, List.nil_append, List.append_nil]
      refine LW.done ?_
      refine T.ret ?_
      exact ⟨.inl rfl, _, _, res [_, _] rfl ⟨rvA [_, _] (by kernel_rfl) rfl ⟨rfl, rfl, trivial⟩, rvA [_, _, _, _, _] (by kernel_rfl) rfl ⟨rfl, rfl, rfl, rfl, rfl, trivial⟩, trivial⟩, ⟨p1, a1, rfl, rfl⟩, Sub.any⟩
end Go.Proofs.YtjjhbpjbngdlnaaDoor
