/- The texts MwB MwC MwD, one behind the other: what the law leans on. Conditions: as each theorem says. -/
import Derived.Test.YtgfbjabjkjbnlaaZMvccPlays4
/- The document's manager (annalsref12): Write, Without, shares, Check, Commit. Conditions: sizes; that what is handed in can be read. -/
set_option linter.unusedSimpArgs false
set_option linter.unusedVariables false
namespace Go.Proofs.Ytgfbjabjkjbnlaa
open Go.RowKit

theorem findR_some {T : List Rt} {t : Int} (h : ¬ findR T t < 0) : ∃ (i : Nat) (x : Rt), findR T t = i ∧ T[i]? = some x ∧ x.id = t := by
  unfold findR at h ⊢
  split at h
  · omega
  · rename_i i hi
    obtain ⟨hl, h1, _⟩ := List.findIdx?_eq_some_iff_getElem.1 hi
    exact ⟨i, T[i], rfl, List.getElem?_eq_getElem hl, of_decide_eq_true h1⟩
/-- What Write leaves: the transaction's keys are others, and lie in the pool. -/
def rWrite (m : Rm) (Q : List Kq) (t : Int) (ks : List Str) (m' : Rm) (Q' : List Kq) : Prop := if findR m.T t < 0 then m' = m ∧ Q' = Q else ∃ i x q, findR m.T t = (i : Nat) ∧ m.T[i]? = some x ∧ q.ks = x.q.ks ++ ks ∧ InQ Q' q ∧ m' = { m with T := m.T.set i { x with q := q } } ∧ Q' = Q ++ [q]
set_option maxHeartbeats 2000000 in
theorem Mw.write (B : Base) (S : List Assn) (m : Rm) (Q : List Kq) (pt : Option Addr) (nt ct : Nat) (ph : Option Addr) (nh ch : Nat) (t : Int) (a : Option Addr) (n c : Nat) (ks : List Str) (hv : RdV B S (.slice a n c) (ks.map kT)) (hks : ks.length = n) (hn2 : n < 2 ^ 32) (hT : m.T.length = nt) (hn : nt < 2 ^ 32) (hQ : ∀ x ∈ m.T, InQ Q x.q ∧ x.q.ks.length < 2 ^ 32) :
    Fn Try.prog B 25 #[rmV m pt nt ct ph nh ch, .int .i64 t, .slice a n c] (rtR pt nt ct m.T :: poS Q :: S) (fun u l => ∃ m' Q' p' c', rWrite m Q t ks m' Q' ∧ u = .tuple #[rmV m' p' nt c' ph nh ch, .int .i64 (if findR m.T t < 0 then 70 else 0)] ∧ l = rtR p' nt c' m'.T :: poS Q' :: S) := by
  by_cases hneg : findR m.T t < 0
  · skip
    refine Fn.enter3 38 Try.func25 rfl rfl (Nat.le_of_ble_eq_true rfl) (fun F => ?_)
    try simp only [List.cons_append, List.nil_append]
    refine T.seq ?_
    refine T.region ?_
    refine LW.e rfl (Ef.box [_, _, _, _, _] rfl rfl ?_)
    intro g3
    refine LW.e rfl (Ef.alloc [.int .i64 0, .int .i64 0, .int .i64 0, .slice none 0 0, .slice none 0 0] (by unfold zeroB; kernel_rfl) ?_)
    intro g6
    refine LW.q rfl (Qt.assign rfl) ?_
    refine LW.done ?_
    refine T.seq ?_
    refine T.region ?_
    first | refine LW.q rfl (Qt.loadAgg [_, _, _, _, _] (by kernel_rfl) rfl ⟨rfl, rfl, rfl, rfl, rfl, trivial⟩) ?_ | refine LW.q rfl (Qt.loadAgg [_, _, _, _, _] (by kernel_rfl) rfl (by exact rdl_flat _ _ _ (by intros; rfl) _ (by omega))) ?_
    refine LW.q rfl (Qt.move rfl) ?_
    refine LW.e rfl (Ef.call (Mw.find B m pt nt ct ph nh ch t hT hn) Try.func30 rfl rfl rfl ?_)
    rintro _ _ ⟨rfl, rfl⟩
    try simp only [List.cons_append, List.nil_append]
    refine LW.q rfl (Qt.assign rfl) ?_
    refine LW.done ?_
    refine T.seq ?_
    refine T.seq ?_
    refine T.region ?_
    refine LW.q rfl (Qt.move rfl) ?_
    refine LW.q rfl (Qt.lss rfl rfl) ?_
    refine LW.done ?_
    first | refine T.condT rfl ?_ | refine T.condPT rfl (by omega) ?_ | refine T.condBT rfl (by omega) ?_
    refine T.seq ?_
    refine T.region ?_
    first | refine LW.q rfl (Qt.loadAgg [_, _, _, _, _] (by kernel_rfl) rfl ⟨rfl, rfl, rfl, rfl, rfl, trivial⟩) ?_ | refine LW.q rfl (Qt.loadAgg [_, _, _, _, _] (by kernel_rfl) rfl (by exact rdl_flat _ _ _ (by intros; rfl) _ (by omega))) ?_
    refine LW.e0 rfl (Ef.store [_, _, _, _, _] (by kernel_rfl) rfl rfl rfl rfl (by simp) ?_)
    try simp only [splice, List.length_cons, List.length_nil, List.drop_succ_cons, List.cons_append, List.take_succ_cons, List.take_zero, List.drop_zero, List.nil_append, List.append_nil]
    refine LW.q rfl (Qt.assign rfl) ?_
    refine LW.done ?_
    refine T.ret ?_
    exact ⟨.inl rfl, _, _, res [_, _] rfl ⟨rvA [_, _, _, _, _] (by kernel_rfl) rfl ⟨rfl, rfl, rfl, rfl, rfl, trivial⟩, rvT rfl, trivial⟩, ⟨m, Q, pt, ct, by unfold rWrite; rw [if_pos hneg]; exact ⟨rfl, rfl⟩, by rw [if_pos hneg]; rfl, rfl⟩, Sub.any⟩
  · obtain ⟨i, x, hfi, hx, hxt⟩ := findR_some hneg
    have hil := (List.getElem?_eq_some_iff.1 hx).1
    obtain ⟨hq1, hq2⟩ := hQ x (List.mem_of_getElem? hx)
    have hfl := flat3_len rtC (fun _ => rfl) m.T
    refine Fn.enter3 38 Try.func25 rfl rfl (Nat.le_of_ble_eq_true rfl) (fun F => ?_)
    try simp only [List.cons_append, List.nil_append]
    refine T.seq ?_
    refine T.region ?_
    refine LW.e rfl (Ef.box [_, _, _, _, _] rfl rfl ?_)
    intro g3
    refine LW.e rfl (Ef.alloc [.int .i64 0, .int .i64 0, .int .i64 0, .slice none 0 0, .slice none 0 0] (by unfold zeroB; kernel_rfl) ?_)
    intro g6
    refine LW.q rfl (Qt.assign rfl) ?_
    refine LW.done ?_
    refine T.seq ?_
    refine T.region ?_
    first | refine LW.q rfl (Qt.loadAgg [_, _, _, _, _] (by kernel_rfl) rfl ⟨rfl, rfl, rfl, rfl, rfl, trivial⟩) ?_ | refine LW.q rfl (Qt.loadAgg [_, _, _, _, _] (by kernel_rfl) rfl (by exact rdl_flat _ _ _ (by intros; rfl) _ (by omega))) ?_
    refine LW.q rfl (Qt.move rfl) ?_
    refine LW.e rfl (Ef.call (Mw.find B m pt nt ct ph nh ch t hT hn) Try.func30 rfl rfl rfl ?_)
    rintro _ _ ⟨rfl, rfl⟩
    try simp only [List.cons_append, List.nil_append]
    refine LW.q rfl (Qt.assign rfl) ?_
    refine LW.done ?_
    refine T.seq ?_
    refine T.seq ?_
    refine T.region ?_
    refine LW.q rfl (Qt.move rfl) ?_
    refine LW.q rfl (Qt.lss rfl rfl) ?_
    refine LW.done ?_
    first | refine T.condF rfl ?_ | refine T.condPF rfl (by omega) ?_ | refine T.condBF rfl (by omega) ?_
    refine T.skip ?_
    refine T.seq ?_
    refine T.region ?_
    refine LW.e rfl (Ef.empty Mw.elemT ?_)
    rintro g17
    try simp only [List.cons_append, List.nil_append]
    refine LW.q rfl (Qt.fieldAddr (off := 3) (by kernel_rfl) rfl) ?_
    first | refine LW.q rfl (Qt.load (by kernel_rfl) rfl rfl) ?_ | refine LW.q rfl (Qt.load (by kernel_rfl) rfl (map_at _ _ _ (by omega))) ?_ | refine LW.q rfl (Qt.load (by kernel_rfl) rfl (flat_cell0 _ _ _ (by intros; rfl) _ (by omega) (by rfl))) ?_ | refine LW.q rfl (Qt.load (by kernel_rfl) rfl (flat_cell _ _ _ (by intros; rfl) _ _ (by omega) (by rfl))) ?_ | refine LW.q rfl (Qt.load (by kernel_rfl) rfl (bytes_at _ _ (by omega))) ?_
    refine LW.e rfl (Ef.append Mw.elemT rfl rfl (SrcOf.row (by kernel_rfl) one_rt) (by unfold maxLen; omega) (by omega) ?_)
    rintro p1 c1 hp1
    try simp only [List.cons_append, List.nil_append]
    simp only [Nat.zero_add, List.nil_append] at hp1 ⊢
    obtain ⟨g1, rfl⟩ := hp1 (by omega)
    refine LW.q rfl (Qt.assign rfl) ?_
    refine LW.done ?_
    refine T.seq ?_
    refine T.region ?_
    refine LW.e rfl (Ef.empty Mw.elemS ?_)
    rintro g21
    try simp only [List.cons_append, List.nil_append]
    refine LW.q rfl (Qt.move rfl) ?_
    refine LW.q rfl (Qt.move rfl) ?_
    refine LW.q rfl (Qt.index i (e := 60) (sz := 3) (by kernel_rfl) rfl rfl hfi (by omega)) ?_
    refine LW.q rfl (Qt.fieldAddr (off := 2) (by kernel_rfl) rfl) ?_
    refine LW.q rfl (Qt.load (v := kqV x.q) (by kernel_rfl) rfl (flat3 rtC (fun _ => rfl) hx 2 (by omega))) ?_
    refine LW.e rfl (Ef.append Mw.elemS rfl rfl (SrcOf.rd (m := x.q.ks.length) ((RdV.pool hq1).mono (fun w ho => ho.map Sub.any)) (by kernel_rfl) (by simp) one_kT) (by unfold maxLen; omega) (by omega) ?_)
    rintro p2 c2 hp2
    try simp only [List.cons_append, List.nil_append]
    simp only [Nat.zero_add, List.nil_append] at hp2 ⊢
    refine LW.q rfl (Qt.assign rfl) ?_
    refine LW.done ?_
    refine T.seq ?_
    refine T.region ?_
    refine LW.q rfl (Qt.move rfl) ?_
    refine LW.q rfl (Qt.move rfl) ?_
    refine LW.q rfl (Qt.move rfl) ?_
    refine LW.q rfl (Qt.move rfl) ?_
    refine LW.e rfl (Ef.append Mw.elemS rfl rfl (SrcOf.rd (m := n) (hv.mono (fun w ho => ho.map Sub.any)) (by kernel_rfl) (by simp [hks]) one_kT) (by unfold maxLen; omega) (by omega) ?_)
    rintro p3 c3 hp3
    try simp only [List.cons_append, List.nil_append]
    rw [← List.map_append, show x.q.ks.length + n = (x.q.ks ++ ks).length by simp [hks]]
    rw [show x.q.ks.length + n = (x.q.ks ++ ks).length by simp [hks]] at hp3
    refine LW.q rfl (Qt.index i (e := 60) (sz := 3) (by kernel_rfl) rfl rfl hfi (by omega)) ?_
    refine LW.q rfl (Qt.fieldAddr (off := 2) (by kernel_rfl) rfl) ?_
    refine LW.e0 rfl (Ef.store1 (by kernel_rfl) rfl rfl rfl (by rw [hfl]; omega) ?_)
    rw [flat3_set rtC (fun _ => rfl) (y := { x with q := ⟨p3, c3, x.q.ks ++ ks⟩ }) hx 2 (by omega) (.slice p3 (x.q.ks ++ ks).length c3) rfl]
    refine LW.done ?_
    refine T.seq ?_
    refine T.region ?_
    refine LW.q rfl (Qt.move rfl) ?_
    refine LW.q rfl (Qt.fieldAddr (off := 3) (by kernel_rfl) rfl) ?_
    refine LW.e0 rfl (Ef.store1 (by kernel_rfl) rfl rfl rfl (by first | (simp; done) | (simp; omega)) ?_)
    try simp only [List.set_cons_zero, List.set_cons_succ]
    refine LW.done ?_
    refine T.seq ?_
    refine T.region ?_
    first | refine LW.q rfl (Qt.loadAgg [_, _, _, _, _] (by kernel_rfl) rfl ⟨rfl, rfl, rfl, rfl, rfl, trivial⟩) ?_ | refine LW.q rfl (Qt.loadAgg [_, _, _, _, _] (by kernel_rfl) rfl (by exact rdl_flat _ _ _ (by intros; rfl) _ (by omega))) ?_
    refine LW.e0 rfl (Ef.store [_, _, _, _, _] (by kernel_rfl) rfl rfl rfl rfl (by simp) ?_)
    try simp only [splice, List.length_cons, List.length_nil, List.drop_succ_cons, List.cons_append, List.take_succ_cons, List.take_zero, List.drop_zero, List.nil_append, List.append_nil]
    refine LW.q rfl (Qt.assign rfl) ?_
    refine LW.done ?_
    refine T.conv (fun w ho => Own.po_push (Q := Q) ⟨p3, c3, x.q.ks ++ ks⟩ ho) ?_
    refine T.ret ?_
    exact ⟨.inl rfl, _, _, res [_, _] rfl ⟨rvA [_, _, _, _, _] (by kernel_rfl) rfl ⟨rfl, rfl, rfl, rfl, rfl, trivial⟩, rvT rfl, trivial⟩, ⟨{ m with T := m.T.set i { x with q := ⟨p3, c3, x.q.ks ++ ks⟩ } }, Q ++ [⟨p3, c3, x.q.ks ++ ks⟩], some ⟨g1, 0, none⟩, c1, by unfold rWrite; rw [if_neg hneg]; exact ⟨i, x, ⟨p3, c3, x.q.ks ++ ks⟩, hfi, hx, rfl, .inr ⟨by simp, hp3⟩, rfl, rfl⟩, by rw [if_neg hneg]; rfl, rfl⟩, Sub.any⟩
theorem SrcOf.tail {P : Program} {B : Base} {l : List Assn} {tx sz g m c lo cap : Nat} {C : List Value} [k : Rd B g l C] (hk : sliceZ P tx sz = true) (hl : C.length = m * sz) (hlo : lo ≤ m) (hc : m ≤ c) (h1 : ∀ x ∈ C, x.oneCell' = true) : SrcOf P B l sz tx (.slice (offA (some ⟨g, 0, none⟩) c lo sz) (m - lo) cap) (m - lo) (C.drop (lo * sz)) := by
  have h2 : ∀ x ∈ C.drop (lo * sz), x.oneCell' = true := fun x hx => h1 x (List.mem_of_mem_drop hx)
  have h3 : (C.drop (lo * sz)).length = (m - lo) * sz := by rw [List.length_drop, hl, Nat.sub_mul]
  by_cases e : c = lo
  · have : offA (some ⟨g, 0, none⟩) c lo sz = some ⟨g, 0, none⟩ := by unfold offA; rw [if_pos e]
    rw [this]
    obtain rfl : m = lo := by omega
    refine SrcOf.cells (g := g) (o := 0) hk (fun j v h => ?_) h3 h2
    have : C.drop (m * sz) = [] := by rw [List.drop_eq_nil_iff]; omega
    rw [this] at h; simp at h
  · rw [offA_some e]
    refine SrcOf.cells (g := g) (o := 0 + lo * sz) hk (fun j v h => ?_) h3 h2
    rw [List.getElem?_drop] at h
    rw [Nat.zero_add]; exact h
theorem SrcOf.head {P : Program} {B : Base} {l : List Assn} {tx sz g m hi cap : Nat} {C : List Value} [k : Rd B g l C] (hk : sliceZ P tx sz = true) (hl : C.length = m * sz) (hhi : hi ≤ m) (h1 : ∀ x ∈ C, x.oneCell' = true) : SrcOf P B l sz tx (.slice (some ⟨g, 0, none⟩) hi cap) hi (C.take (hi * sz)) := by
  refine SrcOf.cells (g := g) (o := 0) hk (fun j v h => ?_) ?_ (fun x hx => h1 x (List.mem_of_mem_take hx))
  · rw [List.getElem?_take] at h
    split at h
    · rw [Nat.zero_add]; exact h
    · cases h
  · rw [List.length_take, hl]
    exact Nat.min_eq_left (Nat.mul_le_mul_right _ hhi)
theorem flat3_take {α : Type} (g : α → List Value) (hg : ∀ x, (g x).length = 3) : ∀ (T : List α) (i : Nat), (T.flatMap g).take (i * 3) = (T.take i).flatMap g
  | [], i => by simp
  | a :: T, 0 => by simp
  | a :: T, i + 1 => by
    rw [List.flatMap_cons, List.take_succ_cons, List.flatMap_cons, ← flat3_take g hg T i, List.take_append, hg, List.take_of_length_le (by rw [hg]; omega)]
    congr 2
    omega
theorem flat3_drop {α : Type} (g : α → List Value) (hg : ∀ x, (g x).length = 3) : ∀ (T : List α) (i : Nat), (T.flatMap g).drop (i * 3) = (T.drop i).flatMap g
  | [], i => by simp
  | a :: T, 0 => by simp
  | a :: T, i + 1 => by
    rw [List.flatMap_cons, List.drop_succ_cons, ← flat3_drop g hg T i, List.drop_append, hg, List.drop_of_length_le (by rw [hg]; omega), List.nil_append]
    congr 1
    omega
theorem Mw.without_no (B : Base) (m : Rm) (pt : Option Addr) (nt ct : Nat) (ph : Option Addr) (nh ch : Nat) (t : Int) (hT : m.T.length = nt) (hn : nt < 2 ^ 32) (h : findR m.T t < 0) : Fn Try.prog B 28 #[rmV m pt nt ct ph nh ch, .int .i64 t] [rtR pt nt ct m.T] (fun u l => u = .tuple #[rmV m pt nt ct ph nh ch, .int .i64 70] ∧ l = [rtR pt nt ct m.T]) := by
  refine Fn.enter2 29 Try.func28 rfl rfl (Nat.le_of_ble_eq_true rfl) (fun F => ?_)
  try simp only [List.cons_append, List.nil_append]
  refine T.seq ?_
  refine T.region ?_
  refine LW.e rfl (Ef.box [_, _, _, _, _] rfl rfl ?_)
  intro g2
  refine LW.e rfl (Ef.alloc [.int .i64 0, .int .i64 0, .int .i64 0, .slice none 0 0, .slice none 0 0] (by unfold zeroB; kernel_rfl) ?_)
  intro g4
  refine LW.q rfl (Qt.assign rfl) ?_
  refine LW.done ?_
  refine T.seq ?_
  refine T.region ?_
  first | refine LW.q rfl (Qt.loadAgg [_, _, _, _, _] (by kernel_rfl) rfl ⟨rfl, rfl, rfl, rfl, rfl, trivial⟩) ?_ | refine LW.q rfl (Qt.loadAgg [_, _, _, _, _] (by kernel_rfl) rfl (by exact rdl_flat _ _ _ (by intros; rfl) _ (by omega))) ?_
  refine LW.q rfl (Qt.move rfl) ?_
  refine LW.e rfl (Ef.call (Mw.find B m pt nt ct ph nh ch t hT hn) Try.func30 rfl rfl rfl ?_)
  rintro _ _ ⟨rfl, rfl⟩
  try simp only [List.cons_append, List.nil_append]
  refine LW.q rfl (Qt.assign rfl) ?_
  refine LW.done ?_
  refine T.seq ?_
  refine T.seq ?_
  refine T.region ?_
  refine LW.q rfl (Qt.move rfl) ?_
  refine LW.q rfl (Qt.lss rfl rfl) ?_
  refine LW.done ?_
  first | refine T.condT rfl ?_ | refine T.condPT rfl (by omega) ?_ | refine T.condBT rfl (by omega) ?_
  refine T.seq ?_
  refine T.region ?_
  first | refine LW.q rfl (Qt.loadAgg [_, _, _, _, _] (by kernel_rfl) rfl ⟨rfl, rfl, rfl, rfl, rfl, trivial⟩) ?_ | refine LW.q rfl (Qt.loadAgg [_, _, _, _, _] (by kernel_rfl) rfl (by exact rdl_flat _ _ _ (by intros; rfl) _ (by omega))) ?_
  refine LW.e0 rfl (Ef.store [_, _, _, _, _] (by kernel_rfl) rfl rfl rfl rfl (by simp) ?_)
  try simp only [splice, List.length_cons, List.length_nil, List.drop_succ_cons, List.cons_append, List.take_succ_cons, List.take_zero, List.drop_zero, List.nil_append, List.append_nil]
  refine LW.q rfl (Qt.assign rfl) ?_
  refine LW.done ?_
  refine T.ret ?_
  exact ⟨.inl rfl, _, _, res [_, _] rfl ⟨rvA [_, _, _, _, _] (by kernel_rfl) rfl ⟨rfl, rfl, rfl, rfl, rfl, trivial⟩, rvT rfl, trivial⟩, ⟨rfl, rfl⟩, Sub.any⟩
theorem Mw.without (B : Base) (m : Rm) (pt : Option Addr) (nt ct : Nat) (ph : Option Addr) (nh ch : Nat) (t : Int) (hT : m.T.length = nt) (hn : nt < 2 ^ 32) (i : Nat) (hfi : findR m.T t = (i : Nat)) (hil : i < nt) : Fn Try.prog B 28 #[rmV m pt nt ct ph nh ch, .int .i64 t] [rtR pt nt ct m.T] (fun u l => ∃ p c n', n' + 1 = nt ∧ u = .tuple #[rmV m p n' c ph nh ch, .int .i64 0] ∧ l = [rtR p n' c (m.T.eraseIdx i), rtR pt nt ct m.T]) := by
  refine Fn.enter2 29 Try.func28 rfl rfl (Nat.le_of_ble_eq_true rfl) (fun F => ?_)
  try simp only [List.cons_append, List.nil_append]
  refine T.seq ?_
  refine T.region ?_
  refine LW.e rfl (Ef.box [_, _, _, _, _] rfl rfl ?_)
  intro g2
  refine LW.e rfl (Ef.alloc [.int .i64 0, .int .i64 0, .int .i64 0, .slice none 0 0, .slice none 0 0] (by unfold zeroB; kernel_rfl) ?_)
  intro g4
  refine LW.q rfl (Qt.assign rfl) ?_
  refine LW.done ?_
  refine T.seq ?_
  refine T.region ?_
  first | refine LW.q rfl (Qt.loadAgg [_, _, _, _, _] (by kernel_rfl) rfl ⟨rfl, rfl, rfl, rfl, rfl, trivial⟩) ?_ | refine LW.q rfl (Qt.loadAgg [_, _, _, _, _] (by kernel_rfl) rfl (by exact rdl_flat _ _ _ (by intros; rfl) _ (by omega))) ?_
  refine LW.q rfl (Qt.move rfl) ?_
  refine LW.e rfl (Ef.call (Mw.find B m pt nt ct ph nh ch t hT hn) Try.func30 rfl rfl rfl ?_)
  rintro _ _ ⟨rfl, rfl⟩
  try simp only [List.cons_append, List.nil_append]
  refine LW.own (fun w ho => ?_)
  obtain ⟨gt, rfl⟩ : ∃ g, pt = some ⟨g, 0, none⟩ := (ho.slice_at (p := pt) (m := nt) (c := ct)).2.1 (by omega)
  have hcap := ho.cap_at (p := some ⟨gt, 0, none⟩) (m := nt) (c := ct)
  clear ho
  rw [hfi]
  refine LW.q rfl (Qt.assign rfl) ?_
  refine LW.done ?_
  refine T.seq ?_
  refine T.seq ?_
  refine T.region ?_
  refine LW.q rfl (Qt.move rfl) ?_
  refine LW.q rfl (Qt.lss rfl rfl) ?_
  refine LW.done ?_
  first | refine T.condF rfl ?_ | refine T.condPF rfl (by omega) ?_ | refine T.condBF rfl (by omega) ?_
  refine T.skip ?_
  refine T.seq ?_
  refine T.region ?_
  refine LW.e rfl (Ef.empty Mw.elemT ?_)
  rintro g14
  try simp only [List.cons_append, List.nil_append]
  refine LW.q rfl (Qt.fieldAddr (off := 3) (by kernel_rfl) rfl) ?_
  first | refine LW.q rfl (Qt.load (by kernel_rfl) rfl rfl) ?_ | refine LW.q rfl (Qt.load (by kernel_rfl) rfl (map_at _ _ _ (by omega))) ?_ | refine LW.q rfl (Qt.load (by kernel_rfl) rfl (flat_cell0 _ _ _ (by intros; rfl) _ (by omega) (by rfl))) ?_ | refine LW.q rfl (Qt.load (by kernel_rfl) rfl (flat_cell _ _ _ (by intros; rfl) _ _ (by omega) (by rfl))) ?_ | refine LW.q rfl (Qt.load (by kernel_rfl) rfl (bytes_at _ _ (by omega))) ?_
  refine LW.q rfl (Qt.move rfl) ?_
  refine LW.q rfl (Qt.slice_nsn i (e := 60) (sz := 3) (by kernel_rfl) rfl rfl rfl (by omega)) ?_
  refine LW.e rfl (Ef.append Mw.elemT rfl rfl (SrcOf.head (by kernel_rfl) (by rw [flat3_len rtC (fun _ => rfl), hT]) (by omega) one_rt) (by unfold maxLen; omega) (by omega) ?_)
  rintro p1 c1 hp1
  try simp only [List.cons_append, List.nil_append]
  simp only [Nat.zero_add, List.nil_append]
  rw [flat3_take rtC (fun _ => rfl)]
  refine LW.q rfl (Qt.assign rfl) ?_
  refine LW.done ?_
  refine T.seq ?_
  refine T.region ?_
  refine LW.q rfl (Qt.move rfl) ?_
  refine LW.q rfl (Qt.fieldAddr (off := 3) (by kernel_rfl) rfl) ?_
  first | refine LW.q rfl (Qt.load (by kernel_rfl) rfl rfl) ?_ | refine LW.q rfl (Qt.load (by kernel_rfl) rfl (map_at _ _ _ (by omega))) ?_ | refine LW.q rfl (Qt.load (by kernel_rfl) rfl (flat_cell0 _ _ _ (by intros; rfl) _ (by omega) (by rfl))) ?_ | refine LW.q rfl (Qt.load (by kernel_rfl) rfl (flat_cell _ _ _ (by intros; rfl) _ _ (by omega) (by rfl))) ?_ | refine LW.q rfl (Qt.load (by kernel_rfl) rfl (bytes_at _ _ (by omega))) ?_
  refine LW.q rfl (Qt.move rfl) ?_
  refine LW.q rfl (Qt.add rfl rfl (wr64 (by omega) (by omega))) ?_
  refine LW.q rfl (Qt.slice_snn (i + 1) (e := 60) (sz := 3) (by kernel_rfl) rfl rfl (by omega) (by omega)) ?_
  refine LW.e rfl (Ef.append Mw.elemT rfl rfl (SrcOf.tail (by kernel_rfl) (by rw [flat3_len rtC (fun _ => rfl), hT]) (by omega) hcap one_rt) (by unfold maxLen; omega) (by omega) ?_)
  rintro p2 c2 hp2
  try simp only [List.cons_append, List.nil_append]
  rw [flat3_drop rtC (fun _ => rfl), flat_append, ← List.eraseIdx_eq_take_drop_succ]
  obtain ⟨n', hn'⟩ : ∃ n', i + (nt - (i + 1)) = n' := ⟨_, rfl⟩
  rw [hn']
  refine LW.q rfl (Qt.fieldAddr (off := 3) (by kernel_rfl) rfl) ?_
  refine LW.e0 rfl (Ef.store1 (by kernel_rfl) rfl rfl rfl (by first | (simp; done) | (simp; omega)) ?_)
  try simp only [List.set_cons_zero, List.set_cons_succ]
  refine LW.done ?_
  refine T.seq ?_
  refine T.region ?_
  first | refine LW.q rfl (Qt.loadAgg [_, _, _, _, _] (by kernel_rfl) rfl ⟨rfl, rfl, rfl, rfl, rfl, trivial⟩) ?_ | refine LW.q rfl (Qt.loadAgg [_, _, _, _, _] (by kernel_rfl) rfl (by exact rdl_flat _ _ _ (by intros; rfl) _ (by omega))) ?_
  refine LW.e0 rfl (Ef.store [_, _, _, _, _] (by kernel_rfl) rfl rfl rfl rfl (by simp) ?_)
  try simp only [splice, List.length_cons, List.length_nil, List.drop_succ_cons, List.cons_append, List.take_succ_cons, List.take_zero, List.drop_zero, List.nil_append, List.append_nil]
  refine LW.q rfl (Qt.assign rfl) ?_
  refine LW.done ?_
  refine T.ret ?_
  exact ⟨.inl rfl, _, _, res [_, _] rfl ⟨rvA [_, _, _, _, _] (by kernel_rfl) rfl ⟨rfl, rfl, rfl, rfl, rfl, trivial⟩, rvT rfl, trivial⟩, ⟨p2, c2, n', by omega, rfl, rfl⟩, Sub.any⟩
/-- Have two lists a key in common? -/
def sharesB (a b : List Str) : Bool := a.any fun x => b.any fun y => decide (x = y)
set_option maxHeartbeats 1000000 in
theorem Mw.shares (B : Base) (S : List Assn) (pa : Option Addr) (na ca : Nat) (a : List Str) (pb : Option Addr) (nb cb : Nat) (b : List Str) (ha : RdV B S (.slice pa na ca) (a.map kT)) (hb : RdV B S (.slice pb nb cb) (b.map kT)) (hna : a.length = na) (hnb : b.length = nb) (h1 : na < 2 ^ 32) (h2 : nb < 2 ^ 32) : Fn Try.prog B 34 #[.slice pa na ca, .slice pb nb cb] S (fun u l => u = .bool (sharesB a b) ∧ l = S) := by
 refine Fn.enter2 28 Try.func34 rfl rfl (Nat.le_of_ble_eq_true rfl) (fun F => ?_)
 try simp only [List.cons_append, List.nil_append]
 refine T.seq ?_
 refine T.region ?_
 refine LW.q rfl (Qt.assign rfl) ?_
 refine LW.done ?_
 refine T.seq ?_
 refine T.seq ?_
 refine T.region ?_
 refine LW.q rfl (Qt.assign rfl) ?_
 refine LW.done ?_
 refine T.block ?_
 refine T.loop (fun mz fz lz => ∃ (f0 : Fr) (i : Nat), (i ≤ na ∧ ∀ x ∈ a.take i, ∀ y ∈ b, x ≠ y) ∧ mz = na - i ∧ fz = (upd (upd (upd f0 0 (.slice pa na ca)) 1 (.slice pb nb cb)) 5 (.int .i64 i)) ∧ lz = S ++ F) ?_ ?_
 · refine ⟨_, _, ⟨_, 0, ⟨Nat.zero_le _, by simp⟩, rfl, (updS rfl (updS rfl (updS rfl rfl))), rfl⟩, Sub.any⟩
 ·
  rintro mz fz lz ⟨f0, i, ⟨hi, hno⟩, hmz, rfl, rfl⟩
  subst mz
  try simp only [List.cons_append, List.nil_append]
  refine T.seq ?_
  refine T.seq ?_
  refine T.region ?_
  refine LW.q rfl (Qt.move rfl) ?_
  refine LW.q rfl (Qt.move rfl) ?_
  refine LW.q rfl (Qt.len (e := 9) (sz := 1) (by kernel_rfl) rfl) ?_
  refine LW.q rfl (Qt.lss rfl rfl) ?_
  refine LW.done ?_
  refine T.condP rfl (fun hlt => ?_) (fun hlt => ?_)
  ·
   obtain ⟨ab, ao, rfl, hca⟩ := ha.at (by omega)
   have hc1 := hca i (by simp; omega)
   simp only [List.getElem_map] at hc1
   obtain ⟨x, hx⟩ : ∃ x, x = a[i] := ⟨_, rfl⟩
   rw [← hx] at hc1
   clear hca
   refine T.skip ?_
   refine T.seq ?_
   refine T.block ?_
   refine T.seq ?_
   refine T.region ?_
   refine LW.q rfl (Qt.assign rfl) ?_
   refine LW.done ?_
   refine T.block ?_
   refine T.loop (fun mz fz lz => ∃ (f0 : Fr) (j : Nat), (j ≤ nb ∧ ∀ y ∈ b.take j, x ≠ y) ∧ mz = nb - j ∧ fz = (upd (upd (upd (upd f0 0 (.slice (some ⟨ab, ao, none⟩) na ca)) 1 (.slice pb nb cb)) 5 (.int .i64 i)) 6 (.int .i64 j)) ∧ lz = S ++ F) ?_ ?_
   · refine ⟨_, _, ⟨_, 0, ⟨Nat.zero_le _, by simp⟩, rfl, (updS rfl (updS rfl (updS rfl (updS rfl rfl)))), rfl⟩, Sub.any⟩
   ·
    rintro mz fz lz ⟨f0, j, ⟨hj, hno2⟩, hmz, rfl, rfl⟩
    subst mz
    try simp only [List.cons_append, List.nil_append]
    refine T.seq ?_
    refine T.seq ?_
    refine T.region ?_
    refine LW.q rfl (Qt.move rfl) ?_
    refine LW.q rfl (Qt.move rfl) ?_
    refine LW.q rfl (Qt.len (e := 9) (sz := 1) (by kernel_rfl) rfl) ?_
    refine LW.q rfl (Qt.lss rfl rfl) ?_
    refine LW.done ?_
    refine T.condP rfl (fun hlt2 => ?_) (fun hlt2 => ?_)
    ·
     obtain ⟨bb, bo, rfl, hcb⟩ := hb.at (by omega)
     have hc2 := hcb j (by simp; omega)
     simp only [List.getElem_map] at hc2
     obtain ⟨y, hy⟩ : ∃ y, y = b[j] := ⟨_, rfl⟩
     rw [← hy] at hc2
     refine T.skip ?_
     refine T.seq ?_
     refine T.block ?_
     refine T.seq ?_
     refine T.drawAll 9 (by kernel_rfl) (Nat.le_of_ble_eq_true rfl) (by kernel_rfl) ?_
     refine RW.q 0 rfl rfl (by kernel_rfl) (Sub.refl _) (Qt.move rfl) ?_
     refine RW.q 1 rfl rfl (by kernel_rfl) (Sub.refl _) (Qt.move rfl) ?_
     refine RW.q 2 rfl rfl (by kernel_rfl) (Sub.refl _) (Qt.index _ (e := 9) (sz := 1) (by kernel_rfl) rfl rfl rfl (by omega)) ?_
     refine RW.q 3 rfl rfl (by kernel_rfl) (Sub.refl _) (Qt.loadW (v := kT x) (by kernel_rfl) rfl (fun w ho => hc1 w (ho.map Sub.any))) ?_
     refine RW.q 4 rfl rfl (by kernel_rfl) (Sub.refl _) (Qt.move rfl) ?_
     refine RW.q 5 rfl rfl (by kernel_rfl) (Sub.refl _) (Qt.move rfl) ?_
     refine RW.q 6 rfl rfl (by kernel_rfl) (Sub.refl _) (Qt.index _ (e := 9) (sz := 1) (by kernel_rfl) rfl rfl rfl (by omega)) ?_
     refine RW.q 7 rfl rfl (by kernel_rfl) (Sub.refl _) (Qt.loadW (v := kT y) (by kernel_rfl) rfl (fun w ho => hc2 w (ho.map Sub.any))) ?_
     refine RW.q 8 rfl rfl (by kernel_rfl) (Sub.refl _) (Qt.eqlS rfl rfl) ?_
     refine RW.done (by rfl) ?_
     simp only [List.drop_succ_cons, List.drop_zero, List.drop_nil]
     refine LW.done ?_
     refine T.condP rfl (fun he => ?_) (fun he => ?_)
     ·
      have hr : sharesB a b = true := by
       unfold sharesB
       rw [List.any_eq_true]
       exact ⟨x, by rw [hx]; exact List.getElem_mem _, by rw [List.any_eq_true]; exact ⟨y, by rw [hy]; exact List.getElem_mem _, by simpa using he⟩⟩
      refine T.seq ?_
      refine T.region ?_
      refine LW.q rfl (Qt.assign rfl) ?_
      refine LW.done ?_
      refine T.ret ?_
      exact ⟨.inl rfl, _, _, res [_] rfl ⟨rvT rfl, trivial⟩, ⟨by rw [hr]; rfl, rfl⟩, Sub.any⟩
     ·
      refine T.skip ?_
      refine T.region ?_
      refine LW.q rfl (Qt.move rfl) ?_
      refine LW.q rfl (Qt.add rfl rfl (wr64 (by omega) (by omega))) ?_
      refine LW.q rfl (Qt.assign rfl) ?_
      refine LW.done ?_
      refine ⟨_, ?_, _, ⟨_, j + 1, ⟨by omega, fun z hz => by rw [List.take_succ_eq_append_getElem (by omega)] at hz; rcases List.mem_append.1 hz with h | h; exact hno2 z h; simp at h; rw [h, ← hy]; exact he⟩, rfl, (updS rfl (updS rfl (updS rfl (updS rfl rfl)))), rfl⟩, Sub.any⟩
      first | omega | (simp; omega)
    ·
     obtain rfl : nb = j := by omega
     refine T.exit ?_
     refine T.region ?_
     refine LW.q rfl (Qt.move rfl) ?_
     refine LW.q rfl (Qt.add rfl rfl (wr64 (by omega) (by omega))) ?_
     refine LW.q rfl (Qt.assign rfl) ?_
     refine LW.done ?_
     refine ⟨_, ?_, _, ⟨_, i + 1, ⟨by omega, fun z hz => by rw [List.take_succ_eq_append_getElem (by omega)] at hz; rcases List.mem_append.1 hz with h | h; exact hno z h; simp at h; rw [h, ← hx]; rw [← hnb, List.take_length] at hno2; exact hno2⟩, rfl, (updS rfl (updS rfl (updS rfl rfl))), rfl⟩, Sub.any⟩
     first | omega | (simp; omega)
  ·
   obtain rfl : na = i := by omega
   have hr : sharesB a b = false := by
    unfold sharesB
    rw [List.any_eq_false]
    intro x hx
    rw [← hna, List.take_length] at hno
    simp only [List.any_eq_true, decide_eq_true_eq, not_exists, not_and]
    exact fun y hy => hno x hx y hy
   refine T.exit ?_
   refine T.seq ?_
   refine T.region ?_
   refine LW.q rfl (Qt.assign rfl) ?_
   refine LW.done ?_
   refine T.ret ?_
   exact ⟨.inl rfl, _, _, res [_] rfl ⟨rvT rfl, trivial⟩, ⟨by rw [hr]; rfl, rfl⟩, Sub.any⟩
end Go.Proofs.Ytgfbjabjkjbnlaa

/- The document's manager (annalsref12): Check, Commit. Conditions: sizes. -/
set_option linter.unusedSimpArgs false
set_option linter.unusedVariables false
namespace Go.Proofs.Ytgfbjabjkjbnlaa
open Go.RowKit

def clashH (H : List Rh) (snap : Int) (ks : List Str) : Bool := H.any fun h => decide (snap < h.stamp) && sharesB h.q.ks ks
/-- What Check says. -/
def rCheck (m : Rm) (t : Int) : Int × Int := match m.T[(findR m.T t).toNat]? with
  | none => (0, 70)
  | some x => if findR m.T t < 0 then (0, 70) else if x.q.ks = [] then (x.snap, 0) else if clashH m.H x.snap x.q.ks = true then (0, 120) else if 1099511627776 ≤ max m.now (m.last + 1) then (0, 3) else (max m.now (m.last + 1), 0)
theorem rCheck_no {m : Rm} {t : Int} (h : findR m.T t < 0) : rCheck m t = (0, 70) := by
  unfold rCheck
  split
  · rfl
  · rw [if_pos h]
theorem rCheck_at {m : Rm} {t : Int} {i : Nat} {x : Rt} (h : findR m.T t = (i : Nat)) (hx : m.T[i]? = some x) : rCheck m t = if x.q.ks = [] then (x.snap, 0) else if clashH m.H x.snap x.q.ks = true then (0, 120) else if 1099511627776 ≤ max m.now (m.last + 1) then (0, 3) else (max m.now (m.last + 1), 0) := by
  unfold rCheck
  rw [h, Int.toNat_natCast, hx]
  dsimp only
  rw [if_neg (by omega)]
/-- The lists of keys lie in the pool. -/
structure RmOk (m : Rm) (Q : List Kq) (N : Nat) : Prop where
  T : ∀ x ∈ m.T, InQ Q x.q ∧ x.q.ks.length ≤ N
  H : ∀ x ∈ m.H, InQ Q x.q ∧ x.q.ks.length ≤ N
theorem load_rt {m : Rm} {i : Nat} {x : Rt} (hx : m.T[i]? = some x) : rdl (m.T.flatMap rtC) (0 + i * 3) [.int .i64 x.id, .int .i64 x.snap, kqV x.q] := by
  have h0 := flat3 rtC (fun _ => rfl) hx 0 (by omega)
  have h1 := flat3 rtC (fun _ => rfl) hx 1 (by omega)
  have h2 := flat3 rtC (fun _ => rfl) hx 2 (by omega)
  exact ⟨h0, h1, h2, trivial⟩
set_option maxHeartbeats 4000000 in
theorem Mw.check (B : Base) (m : Rm) (Q : List Kq) (N : Nat) (pt : Option Addr) (nt ct : Nat) (ph : Option Addr) (nh ch : Nat) (t : Int) (hT : m.T.length = nt) (hn : nt < 2 ^ 32) (hH : m.H.length = nh) (hnh : nh < 2 ^ 32) (hQ : RmOk m Q N) (hN : N < 2 ^ 32) (hl : 0 ≤ m.last ∧ m.last ≤ 1099511627776) (hnw : 0 ≤ m.now ∧ m.now ≤ 1099511627776) :
    Fn Try.prog B 26 #[rmV m pt nt ct ph nh ch, .int .i64 t] [rtR pt nt ct m.T, rhR ph nh ch m.H, poS Q] (fun u l => u = .tuple #[.int .i64 (rCheck m t).1, .int .i64 (rCheck m t).2] ∧ l = [rtR pt nt ct m.T, rhR ph nh ch m.H, poS Q]) := by
  by_cases hneg : findR m.T t < 0
  · rw [rCheck_no hneg]
    refine Fn.enter2 65 Try.func26 rfl rfl (Nat.le_of_ble_eq_true rfl) (fun F => ?_)
    try simp only [List.cons_append, List.nil_append]
    refine T.seq ?_
    refine T.region ?_
    refine LW.e rfl (Ef.box [_, _, _, _, _] rfl rfl ?_)
    intro g2
    refine LW.q rfl (Qt.assign rfl) ?_
    refine LW.q rfl (Qt.assign rfl) ?_
    refine LW.done ?_
    refine T.seq ?_
    refine T.region ?_
    first | refine LW.q rfl (Qt.loadAgg [_, _, _, _, _] (by kernel_rfl) rfl ⟨rfl, rfl, rfl, rfl, rfl, trivial⟩) ?_ | refine LW.q rfl (Qt.loadAgg [_, _, _, _, _] (by kernel_rfl) rfl (by exact rdl_flat _ _ _ (by intros; rfl) _ (by omega))) ?_
    refine LW.q rfl (Qt.move rfl) ?_
    refine LW.e rfl (Ef.call (Mw.find B m pt nt ct ph nh ch t hT hn) Try.func30 rfl rfl rfl ?_)
    rintro _ _ ⟨rfl, rfl⟩
    try simp only [List.cons_append, List.nil_append]
    refine LW.q rfl (Qt.assign rfl) ?_
    refine LW.done ?_
    refine T.seq ?_
    refine T.seq ?_
    refine T.region ?_
    refine LW.q rfl (Qt.move rfl) ?_
    refine LW.q rfl (Qt.lss rfl rfl) ?_
    refine LW.done ?_
    first | refine T.condT rfl ?_ | refine T.condPT rfl (by omega) ?_ | refine T.condBT rfl (by omega) ?_
    refine T.seq ?_
    refine T.region ?_
    refine LW.q rfl (Qt.assign rfl) ?_
    refine LW.q rfl (Qt.assign rfl) ?_
    refine LW.done ?_
    refine T.ret ?_
    exact ⟨.inl rfl, _, _, res [_, _] rfl ⟨rvT rfl, rvT rfl, trivial⟩, ⟨rfl, rfl⟩, Sub.any⟩
  · obtain ⟨i, x, hfi, hx, hxt⟩ := findR_some hneg
    have hil := (List.getElem?_eq_some_iff.1 hx).1
    obtain ⟨hq1, hq2⟩ := hQ.T x (List.mem_of_getElem? hx)
    rw [rCheck_at hfi hx]
    refine Fn.enter2 65 Try.func26 rfl rfl (Nat.le_of_ble_eq_true rfl) (fun F => ?_)
    try simp only [List.cons_append, List.nil_append]
    refine T.seq ?_
    refine T.region ?_
    refine LW.e rfl (Ef.box [_, _, _, _, _] rfl rfl ?_)
    intro g2
    refine LW.q rfl (Qt.assign rfl) ?_
    refine LW.q rfl (Qt.assign rfl) ?_
    refine LW.done ?_
    refine T.seq ?_
    refine T.region ?_
    first | refine LW.q rfl (Qt.loadAgg [_, _, _, _, _] (by kernel_rfl) rfl ⟨rfl, rfl, rfl, rfl, rfl, trivial⟩) ?_ | refine LW.q rfl (Qt.loadAgg [_, _, _, _, _] (by kernel_rfl) rfl (by exact rdl_flat _ _ _ (by intros; rfl) _ (by omega))) ?_
    refine LW.q rfl (Qt.move rfl) ?_
    refine LW.e rfl (Ef.call (Mw.find B m pt nt ct ph nh ch t hT hn) Try.func30 rfl rfl rfl ?_)
    rintro _ _ ⟨rfl, rfl⟩
    try simp only [List.cons_append, List.nil_append]
    refine LW.own (fun w ho => ?_)
    obtain ⟨gt, rfl⟩ : ∃ g, pt = some ⟨g, 0, none⟩ := (ho.slice_at (p := pt) (m := nt) (c := ct)).2.1 (by omega)
    clear ho
    refine LW.q rfl (Qt.assign rfl) ?_
    refine LW.done ?_
    refine T.seq ?_
    refine T.seq ?_
    refine T.region ?_
    refine LW.q rfl (Qt.move rfl) ?_
    refine LW.q rfl (Qt.lss rfl rfl) ?_
    refine LW.done ?_
    first | refine T.condF rfl ?_ | refine T.condPF rfl (by omega) ?_ | refine T.condBF rfl (by omega) ?_
    refine T.skip ?_
    refine T.seq ?_
    refine T.region ?_
    refine LW.q rfl (Qt.fieldAddr (off := 3) (by kernel_rfl) rfl) ?_
    first | refine LW.q rfl (Qt.load (by kernel_rfl) rfl rfl) ?_ | refine LW.q rfl (Qt.load (by kernel_rfl) rfl (map_at _ _ _ (by omega))) ?_ | refine LW.q rfl (Qt.load (by kernel_rfl) rfl (flat_cell0 _ _ _ (by intros; rfl) _ (by omega) (by rfl))) ?_ | refine LW.q rfl (Qt.load (by kernel_rfl) rfl (flat_cell _ _ _ (by intros; rfl) _ _ (by omega) (by rfl))) ?_ | refine LW.q rfl (Qt.load (by kernel_rfl) rfl (bytes_at _ _ (by omega))) ?_
    refine LW.q rfl (Qt.move rfl) ?_
    refine LW.q rfl (Qt.index i (e := 60) (sz := 3) (by kernel_rfl) rfl rfl hfi (by omega)) ?_
    refine LW.q rfl (Qt.loadAgg [_, _, _] (by kernel_rfl) rfl (load_rt hx)) ?_
    refine LW.e rfl (Ef.alloc [.int .i64 0, .int .i64 0, .slice none 0 0] (by unfold zeroB; kernel_rfl) ?_)
    intro g7
    refine LW.e0 rfl (Ef.store [_, _, _] (by kernel_rfl) rfl rfl rfl rfl (by simp) ?_)
    try simp only [splice, List.length_cons, List.length_nil, List.drop_succ_cons, List.cons_append, List.take_succ_cons, List.take_zero, List.drop_zero, List.nil_append, List.append_nil]
    refine LW.done ?_
    refine T.seq ?_
    refine T.seq ?_
    refine T.region ?_
    refine LW.q rfl (Qt.fieldAddr (off := 2) (by kernel_rfl) rfl) ?_
    first | refine LW.q rfl (Qt.load (by kernel_rfl) rfl rfl) ?_ | refine LW.q rfl (Qt.load (by kernel_rfl) rfl (map_at _ _ _ (by omega))) ?_ | refine LW.q rfl (Qt.load (by kernel_rfl) rfl (flat_cell0 _ _ _ (by intros; rfl) _ (by omega) (by rfl))) ?_ | refine LW.q rfl (Qt.load (by kernel_rfl) rfl (flat_cell _ _ _ (by intros; rfl) _ _ (by omega) (by rfl))) ?_ | refine LW.q rfl (Qt.load (by kernel_rfl) rfl (bytes_at _ _ (by omega))) ?_
    refine LW.q rfl (Qt.len (e := 9) (sz := 1) (by kernel_rfl) rfl) ?_
    refine LW.q rfl (Qt.eql rfl rfl) ?_
    refine LW.done ?_
    refine T.condP rfl (fun h0 => ?_) (fun h0 => ?_)
    · skip
      have h00 : x.q.ks = [] := List.eq_nil_of_length_eq_zero (by omega)
      refine T.seq ?_
      refine T.region ?_
      refine LW.q rfl (Qt.fieldAddr (off := 1) (by kernel_rfl) rfl) ?_
      first | refine LW.q rfl (Qt.load (by kernel_rfl) rfl rfl) ?_ | refine LW.q rfl (Qt.load (by kernel_rfl) rfl (map_at _ _ _ (by omega))) ?_ | refine LW.q rfl (Qt.load (by kernel_rfl) rfl (flat_cell0 _ _ _ (by intros; rfl) _ (by omega) (by rfl))) ?_ | refine LW.q rfl (Qt.load (by kernel_rfl) rfl (flat_cell _ _ _ (by intros; rfl) _ _ (by omega) (by rfl))) ?_ | refine LW.q rfl (Qt.load (by kernel_rfl) rfl (bytes_at _ _ (by omega))) ?_
      refine LW.q rfl (Qt.assign rfl) ?_
      refine LW.q rfl (Qt.assign rfl) ?_
      refine LW.done ?_
      refine T.ret ?_
      exact ⟨.inl rfl, _, _, res [_, _] rfl ⟨rvT rfl, rvT rfl, trivial⟩, ⟨by rw [if_pos h00]; rfl, rfl⟩, Sub.any⟩
    · skip
      have h00 : x.q.ks ≠ [] := fun e => h0 (by rw [e]; rfl)
      rw [if_neg h00]
      refine T.skip ?_
      refine T.seq ?_
      refine T.seq ?_
      refine T.region ?_
      refine LW.q rfl (Qt.assign rfl) ?_
      refine LW.done ?_
      refine T.block ?_
      refine T.loop (fun mz fz lz => ∃ (f0 : Fr) (k : Nat), (k ≤ nh ∧ ∀ h ∈ m.H.take k, (decide (x.snap < h.stamp) && sharesB h.q.ks x.q.ks) = false) ∧ mz = nh - k ∧ fz = (upd (upd (upd f0 2 (.pointer (some ⟨g2, 0, none⟩))) 7 (.pointer (some ⟨g7, 0, none⟩))) 8 (.int .i64 k)) ∧ lz = blk g7 [.int .i64 x.id, .int .i64 x.snap, kqV x.q] 60 :: blk g2 (rmL m (some ⟨gt, 0, none⟩) nt ct ph nh ch) 55 :: rtR (some ⟨gt, 0, none⟩) nt ct m.T :: rhR ph nh ch m.H :: poS Q :: F) ?_ ?_
      · refine ⟨_, _, ⟨_, 0, ⟨Nat.zero_le _, by simp⟩, rfl, (updS rfl (updS rfl (updS rfl rfl))), rfl⟩, Sub.any⟩
      · skip
        rintro mz fz lz ⟨f0, k, ⟨hk, hno⟩, hmz, rfl, rfl⟩
        subst mz
        try simp only [List.cons_append, List.nil_append]
        refine T.seq ?_
        refine T.seq ?_
        refine T.region ?_
        refine LW.q rfl (Qt.move rfl) ?_
        refine LW.q rfl (Qt.fieldAddr (off := 4) (by kernel_rfl) rfl) ?_
        first | refine LW.q rfl (Qt.load (by kernel_rfl) rfl rfl) ?_ | refine LW.q rfl (Qt.load (by kernel_rfl) rfl (map_at _ _ _ (by omega))) ?_ | refine LW.q rfl (Qt.load (by kernel_rfl) rfl (flat_cell0 _ _ _ (by intros; rfl) _ (by omega) (by rfl))) ?_ | refine LW.q rfl (Qt.load (by kernel_rfl) rfl (flat_cell _ _ _ (by intros; rfl) _ _ (by omega) (by rfl))) ?_ | refine LW.q rfl (Qt.load (by kernel_rfl) rfl (bytes_at _ _ (by omega))) ?_
        refine LW.q rfl (Qt.len (e := 83) (sz := 3) (by kernel_rfl) rfl) ?_
        refine LW.q rfl (Qt.lss rfl rfl) ?_
        refine LW.done ?_
        refine T.condP rfl (fun hlt => ?_) (fun hlt => ?_)
        · skip
          refine T.own (fun w ho => ?_)
          obtain ⟨gh, rfl⟩ : ∃ g, ph = some ⟨g, 0, none⟩ := (ho.slice_at (p := ph) (m := nh) (c := ch)).2.1 (by omega)
          clear ho
          obtain ⟨h, hh⟩ : ∃ h, m.H[k]? = some h := ⟨_, List.getElem?_eq_getElem (by omega)⟩
          obtain ⟨hq3, hq4⟩ := hQ.H h (List.mem_of_getElem? hh)
          have hs1 := flat3 rhC (fun _ => rfl) hh 1 (by omega)
          have hs2 := flat3 rhC (fun _ => rfl) hh 2 (by omega)
          refine T.skip ?_
          refine T.seq ?_
          refine T.block ?_
          refine T.seq ?_
          refine T.drawAll 20 (by kernel_rfl) (Nat.le_of_ble_eq_true rfl) (by kernel_rfl) ?_
          refine RW.q 0 rfl rfl (by kernel_rfl) (Sub.refl _) (Qt.fieldAddr (off := 4) (by kernel_rfl) rfl) ?_
          first | refine RW.q 1 rfl rfl (by kernel_rfl) (Sub.refl _) (Qt.load (by kernel_rfl) rfl rfl) ?_ | refine RW.q 1 rfl rfl (by kernel_rfl) (Sub.refl _) (Qt.load (by kernel_rfl) rfl (map_at _ _ _ (by omega))) ?_ | refine RW.q 1 rfl rfl (by kernel_rfl) (Sub.refl _) (Qt.load (by kernel_rfl) rfl (flat_cell0 _ _ _ (by intros; rfl) _ (by omega) (by rfl))) ?_ | refine RW.q 1 rfl rfl (by kernel_rfl) (Sub.refl _) (Qt.load (by kernel_rfl) rfl (flat_cell _ _ _ (by intros; rfl) _ _ (by omega) (by rfl))) ?_ | refine RW.q 1 rfl rfl (by kernel_rfl) (Sub.refl _) (Qt.load (by kernel_rfl) rfl (bytes_at _ _ (by omega))) ?_
          refine RW.q 2 rfl rfl (by kernel_rfl) (Sub.refl _) (Qt.move rfl) ?_
          refine RW.q 3 rfl rfl (by kernel_rfl) (Sub.refl _) (Qt.index _ (e := 83) (sz := 3) (by kernel_rfl) rfl rfl rfl (by omega)) ?_
          refine RW.q 4 rfl rfl (by kernel_rfl) (Sub.refl _) (Qt.fieldAddr (off := 1) (by kernel_rfl) rfl) ?_
          refine RW.q 5 rfl rfl (by kernel_rfl) (Sub.refl _) (Qt.load (v := .int .i64 h.stamp) (by kernel_rfl) rfl hs1) ?_
          refine RW.q 6 rfl rfl (by kernel_rfl) (Sub.refl _) (Qt.fieldAddr (off := 1) (by kernel_rfl) rfl) ?_
          first | refine RW.q 7 rfl rfl (by kernel_rfl) (Sub.refl _) (Qt.load (by kernel_rfl) rfl rfl) ?_ | refine RW.q 7 rfl rfl (by kernel_rfl) (Sub.refl _) (Qt.load (by kernel_rfl) rfl (map_at _ _ _ (by omega))) ?_ | refine RW.q 7 rfl rfl (by kernel_rfl) (Sub.refl _) (Qt.load (by kernel_rfl) rfl (flat_cell0 _ _ _ (by intros; rfl) _ (by omega) (by rfl))) ?_ | refine RW.q 7 rfl rfl (by kernel_rfl) (Sub.refl _) (Qt.load (by kernel_rfl) rfl (flat_cell _ _ _ (by intros; rfl) _ _ (by omega) (by rfl))) ?_ | refine RW.q 7 rfl rfl (by kernel_rfl) (Sub.refl _) (Qt.load (by kernel_rfl) rfl (bytes_at _ _ (by omega))) ?_
          refine RW.q 8 rfl rfl (by kernel_rfl) (Sub.refl _) (Qt.gtr rfl rfl) ?_
          refine RW.q 9 rfl rfl (by kernel_rfl) (Sub.refl _) (Qt.move rfl) ?_
          refine RW.split (t := 42) rfl (fun hst => ?_) (fun hst => ?_)
          · skip
            try replace hst := of_decide_eq_true hst
            refine RW.q 10 rfl rfl (by kernel_rfl) (Sub.refl _) (Qt.fieldAddr (off := 4) (by kernel_rfl) rfl) ?_
            first | refine RW.q 11 rfl rfl (by kernel_rfl) (Sub.refl _) (Qt.load (by kernel_rfl) rfl rfl) ?_ | refine RW.q 11 rfl rfl (by kernel_rfl) (Sub.refl _) (Qt.load (by kernel_rfl) rfl (map_at _ _ _ (by omega))) ?_ | refine RW.q 11 rfl rfl (by kernel_rfl) (Sub.refl _) (Qt.load (by kernel_rfl) rfl (flat_cell0 _ _ _ (by intros; rfl) _ (by omega) (by rfl))) ?_ | refine RW.q 11 rfl rfl (by kernel_rfl) (Sub.refl _) (Qt.load (by kernel_rfl) rfl (flat_cell _ _ _ (by intros; rfl) _ _ (by omega) (by rfl))) ?_ | refine RW.q 11 rfl rfl (by kernel_rfl) (Sub.refl _) (Qt.load (by kernel_rfl) rfl (bytes_at _ _ (by omega))) ?_
            refine RW.q 12 rfl rfl (by kernel_rfl) (Sub.refl _) (Qt.move rfl) ?_
            refine RW.q 13 rfl rfl (by kernel_rfl) (Sub.refl _) (Qt.index _ (e := 83) (sz := 3) (by kernel_rfl) rfl rfl rfl (by omega)) ?_
            refine RW.q 14 rfl rfl (by kernel_rfl) (Sub.refl _) (Qt.fieldAddr (off := 2) (by kernel_rfl) rfl) ?_
            refine RW.q 15 rfl rfl (by kernel_rfl) (Sub.refl _) (Qt.load (v := kqV h.q) (by kernel_rfl) rfl hs2) ?_
            refine RW.q 16 rfl rfl (by kernel_rfl) (Sub.refl _) (Qt.fieldAddr (off := 2) (by kernel_rfl) rfl) ?_
            first | refine RW.q 17 rfl rfl (by kernel_rfl) (Sub.refl _) (Qt.load (by kernel_rfl) rfl rfl) ?_ | refine RW.q 17 rfl rfl (by kernel_rfl) (Sub.refl _) (Qt.load (by kernel_rfl) rfl (map_at _ _ _ (by omega))) ?_ | refine RW.q 17 rfl rfl (by kernel_rfl) (Sub.refl _) (Qt.load (by kernel_rfl) rfl (flat_cell0 _ _ _ (by intros; rfl) _ (by omega) (by rfl))) ?_ | refine RW.q 17 rfl rfl (by kernel_rfl) (Sub.refl _) (Qt.load (by kernel_rfl) rfl (flat_cell _ _ _ (by intros; rfl) _ _ (by omega) (by rfl))) ?_ | refine RW.q 17 rfl rfl (by kernel_rfl) (Sub.refl _) (Qt.load (by kernel_rfl) rfl (bytes_at _ _ (by omega))) ?_
            refine RW.one 18 (by kernel_rfl) ?_
            refine RO.e rfl rfl (Ef.call (Mw.shares B [poS Q] h.q.p h.q.ks.length h.q.c h.q.ks x.q.p x.q.ks.length x.q.c x.q.ks (RdV.pool hq3) (RdV.pool hq1) rfl rfl (by omega) (by omega)) Try.func34 rfl rfl rfl ?_)
            rintro _ _ ⟨rfl, rfl⟩
            try simp only [List.cons_append, List.nil_append]
            refine ⟨Sub.any, ?_⟩
            refine RW.q 19 rfl rfl (by kernel_rfl) (Sub.refl _) (Qt.pick rfl rfl) ?_
            refine RW.done (by rfl) ?_
            simp only [List.drop_succ_cons, List.drop_zero, List.drop_nil]
            refine LW.done ?_
            refine T.cond rfl (fun hsh => ?_) (fun hsh => ?_)
            · skip
              have hc : clashH m.H x.snap x.q.ks = true := by
                unfold clashH
                rw [List.any_eq_true]
                exact ⟨h, List.mem_of_getElem? hh, by simp [hst, hsh]⟩
              refine T.seq ?_
              refine T.region ?_
              refine LW.q rfl (Qt.assign rfl) ?_
              refine LW.q rfl (Qt.assign rfl) ?_
              refine LW.done ?_
              refine T.ret ?_
              exact ⟨.inl rfl, _, _, res [_, _] rfl ⟨rvT rfl, rvT rfl, trivial⟩, ⟨by rw [if_pos hc]; rfl, rfl⟩, Sub.any⟩
            · skip
              refine T.skip ?_
              refine T.region ?_
              refine LW.q rfl (Qt.move rfl) ?_
              refine LW.q rfl (Qt.add rfl rfl (wr64 (by omega) (by omega))) ?_
              refine LW.q rfl (Qt.assign rfl) ?_
              refine LW.done ?_
              refine ⟨_, ?_, _, ⟨_, k + 1, ⟨by omega, fun z hz => by rw [List.take_add_one, hh] at hz; rcases List.mem_append.1 hz with h1 | h1; exact hno z h1; simp at h1; rw [h1, hsh]; simp⟩, rfl, (updS rfl (updS rfl (updS rfl rfl))), rfl⟩, Sub.any⟩
              first | omega | (simp; omega)
          · skip
            try replace hst := of_decide_eq_false hst
            refine RW.s 10 rfl rfl (by kernel_rfl) (Sub.refl _) ?_
            refine RW.s 11 rfl rfl (by kernel_rfl) (Sub.refl _) ?_
            refine RW.s 12 rfl rfl (by kernel_rfl) (Sub.refl _) ?_
            refine RW.s 13 rfl rfl (by kernel_rfl) (Sub.refl _) ?_
            refine RW.s 14 rfl rfl (by kernel_rfl) (Sub.refl _) ?_
            refine RW.s 15 rfl rfl (by kernel_rfl) (Sub.refl _) ?_
            refine RW.s 16 rfl rfl (by kernel_rfl) (Sub.refl _) ?_
            refine RW.s 17 rfl rfl (by kernel_rfl) (Sub.refl _) ?_
            refine RW.s 18 rfl rfl (by kernel_rfl) (Sub.refl _) ?_
            refine RW.q 19 rfl rfl (by kernel_rfl) (Sub.refl _) (Qt.pick rfl rfl) ?_
            refine RW.done (by rfl) ?_
            simp only [List.drop_succ_cons, List.drop_zero, List.drop_nil]
            refine LW.done ?_
            first | refine T.condF rfl ?_ | refine T.condPF rfl (by omega) ?_ | refine T.condBF rfl (by omega) ?_
            refine T.skip ?_
            refine T.region ?_
            refine LW.q rfl (Qt.move rfl) ?_
            refine LW.q rfl (Qt.add rfl rfl (wr64 (by omega) (by omega))) ?_
            refine LW.q rfl (Qt.assign rfl) ?_
            refine LW.done ?_
            refine ⟨_, ?_, _, ⟨_, k + 1, ⟨by omega, fun z hz => by rw [List.take_add_one, hh] at hz; rcases List.mem_append.1 hz with h1 | h1; exact hno z h1; simp at h1; rw [h1]; simp [hst]⟩, rfl, (updS rfl (updS rfl (updS rfl rfl))), rfl⟩, Sub.any⟩
            first | omega | (simp; omega)
        · skip
          obtain rfl : nh = k := by omega
          have hc : ¬ clashH m.H x.snap x.q.ks = true := by
            unfold clashH
            rw [← hH, List.take_length] at hno
            intro e
            rw [List.any_eq_true] at e
            obtain ⟨h, h1, h2⟩ := e
            rw [hno h h1] at h2; cases h2
          rw [if_neg hc]
          refine T.exit ?_
          refine T.seq ?_
          refine T.region ?_
          refine LW.q rfl (Qt.fieldAddr (off := 1) (by kernel_rfl) rfl) ?_
          first | refine LW.q rfl (Qt.load (by kernel_rfl) rfl rfl) ?_ | refine LW.q rfl (Qt.load (by kernel_rfl) rfl (map_at _ _ _ (by omega))) ?_ | refine LW.q rfl (Qt.load (by kernel_rfl) rfl (flat_cell0 _ _ _ (by intros; rfl) _ (by omega) (by rfl))) ?_ | refine LW.q rfl (Qt.load (by kernel_rfl) rfl (flat_cell _ _ _ (by intros; rfl) _ _ (by omega) (by rfl))) ?_ | refine LW.q rfl (Qt.load (by kernel_rfl) rfl (bytes_at _ _ (by omega))) ?_
          refine LW.q rfl (Qt.add rfl rfl (wr64 (by omega) (by omega))) ?_
          refine LW.q rfl (Qt.assign rfl) ?_
          refine LW.done ?_
          refine T.seq ?_
          refine T.seq ?_
          refine T.region ?_
          refine LW.q rfl (Qt.fieldAddr0 (by kernel_rfl) rfl) ?_
          first | refine LW.q rfl (Qt.load (by kernel_rfl) rfl rfl) ?_ | refine LW.q rfl (Qt.load (by kernel_rfl) rfl (map_at _ _ _ (by omega))) ?_ | refine LW.q rfl (Qt.load (by kernel_rfl) rfl (flat_cell0 _ _ _ (by intros; rfl) _ (by omega) (by rfl))) ?_ | refine LW.q rfl (Qt.load (by kernel_rfl) rfl (flat_cell _ _ _ (by intros; rfl) _ _ (by omega) (by rfl))) ?_ | refine LW.q rfl (Qt.load (by kernel_rfl) rfl (bytes_at _ _ (by omega))) ?_
          refine LW.q rfl (Qt.move rfl) ?_
          refine LW.q rfl (Qt.gtr rfl rfl) ?_
          refine LW.done ?_
          refine T.condP rfl (fun hnow => ?_) (fun hnow => ?_)
          · skip
            have e1 : max m.now (m.last + 1) = m.now := by omega
            rw [e1]
            refine T.region ?_
            refine LW.q rfl (Qt.fieldAddr0 (by kernel_rfl) rfl) ?_
            first | refine LW.q rfl (Qt.load (by kernel_rfl) rfl rfl) ?_ | refine LW.q rfl (Qt.load (by kernel_rfl) rfl (map_at _ _ _ (by omega))) ?_ | refine LW.q rfl (Qt.load (by kernel_rfl) rfl (flat_cell0 _ _ _ (by intros; rfl) _ (by omega) (by rfl))) ?_ | refine LW.q rfl (Qt.load (by kernel_rfl) rfl (flat_cell _ _ _ (by intros; rfl) _ _ (by omega) (by rfl))) ?_ | refine LW.q rfl (Qt.load (by kernel_rfl) rfl (bytes_at _ _ (by omega))) ?_
            refine LW.q rfl (Qt.assign rfl) ?_
            refine LW.done ?_
            refine T.seq ?_
            refine T.seq ?_
            refine T.region ?_
            refine LW.q rfl (Qt.move rfl) ?_
            refine LW.q rfl (Qt.geq rfl rfl) ?_
            refine LW.done ?_
            refine T.condP rfl (fun hfull => ?_) (fun hfull => ?_)
            · skip
              refine T.seq ?_
              refine T.region ?_
              refine LW.q rfl (Qt.assign rfl) ?_
              refine LW.q rfl (Qt.assign rfl) ?_
              refine LW.done ?_
              refine T.ret ?_
              exact ⟨.inl rfl, _, _, res [_, _] rfl ⟨rvT rfl, rvT rfl, trivial⟩, ⟨by rw [if_pos hfull]; rfl, rfl⟩, Sub.any⟩
            · skip
              refine T.skip ?_
              refine T.seq ?_
              refine T.region ?_
              refine LW.q rfl (Qt.move rfl) ?_
              refine LW.q rfl (Qt.assign rfl) ?_
              refine LW.q rfl (Qt.assign rfl) ?_
              refine LW.done ?_
              refine T.ret ?_
              exact ⟨.inl rfl, _, _, res [_, _] rfl ⟨rvT rfl, rvT rfl, trivial⟩, ⟨by rw [if_neg hfull]; rfl, rfl⟩, Sub.any⟩
          · skip
            have e1 : max m.now (m.last + 1) = m.last + 1 := by omega
            rw [e1]
            refine T.skip ?_
            refine T.seq ?_
            refine T.seq ?_
            refine T.region ?_
            refine LW.q rfl (Qt.move rfl) ?_
            refine LW.q rfl (Qt.geq rfl rfl) ?_
            refine LW.done ?_
            refine T.condP rfl (fun hfull => ?_) (fun hfull => ?_)
            · skip
              refine T.seq ?_
              refine T.region ?_
              refine LW.q rfl (Qt.assign rfl) ?_
              refine LW.q rfl (Qt.assign rfl) ?_
              refine LW.done ?_
              refine T.ret ?_
              exact ⟨.inl rfl, _, _, res [_, _] rfl ⟨rvT rfl, rvT rfl, trivial⟩, ⟨by rw [if_pos hfull]; rfl, rfl⟩, Sub.any⟩
            · skip
              refine T.skip ?_
              refine T.seq ?_
              refine T.region ?_
              refine LW.q rfl (Qt.move rfl) ?_
              refine LW.q rfl (Qt.assign rfl) ?_
              refine LW.q rfl (Qt.assign rfl) ?_
              refine LW.done ?_
              refine T.ret ?_
              exact ⟨.inl rfl, _, _, res [_, _] rfl ⟨rvT rfl, rvT rfl, trivial⟩, ⟨by rw [if_neg hfull]; rfl, rfl⟩, Sub.any⟩

/-- What Commit leaves. -/
def rCommit (m : Rm) (t : Int) : Rm × Int × Int := if (rCheck m t).2 ≠ 0 ∧ (rCheck m t).2 ≠ 120 then (m, 0, (rCheck m t).2) else
  match m.T[(findR m.T t).toNat]? with
  | none => (m, 0, 70)
  | some x => if (rCheck m t).2 = 0 ∧ x.q.ks ≠ [] then ({ m with T := m.T.eraseIdx (findR m.T t).toNat, last := (rCheck m t).1, H := m.H ++ [⟨t, (rCheck m t).1, x.q⟩] }, (rCheck m t).1, 0) else ({ m with T := m.T.eraseIdx (findR m.T t).toNat }, (rCheck m t).1, (rCheck m t).2)
set_option maxHeartbeats 4000000 in
theorem Mw.commit (B : Base) (m : Rm) (Q : List Kq) (N : Nat) (pt : Option Addr) (nt ct : Nat) (ph : Option Addr) (nh ch : Nat) (t : Int) (hT : m.T.length = nt) (hn : nt < 2 ^ 32) (hH : m.H.length = nh) (hnh : nh < 2 ^ 32) (hQ : RmOk m Q N) (hN : N < 2 ^ 32) (hl : 0 ≤ m.last ∧ m.last ≤ 1099511627776) (hnw : 0 ≤ m.now ∧ m.now ≤ 1099511627776) :
    Fn Try.prog B 27 #[rmV m pt nt ct ph nh ch, .int .i64 t] [rtR pt nt ct m.T, rhR ph nh ch m.H, poS Q] (fun u l => ∃ p n c p' n' c', (rCommit m t).1.T.length = n ∧ (rCommit m t).1.H.length = n' ∧ u = .tuple #[rmV (rCommit m t).1 p n c p' n' c', .int .i64 (rCommit m t).2.1, .int .i64 (rCommit m t).2.2] ∧ l = [rtR p n c (rCommit m t).1.T, rhR p' n' c' (rCommit m t).1.H, poS Q]) := by
  obtain ⟨⟨st, cd⟩, hck⟩ : ∃ r, rCheck m t = r := ⟨_, rfl⟩
  by_cases hbad : cd ≠ 0 ∧ cd ≠ 120
  · have hr : rCommit m t = (m, 0, cd) := by unfold rCommit; rw [hck]; rw [if_pos hbad]
    rw [hr]
    refine Fn.enter2 64 Try.func27 rfl rfl (Nat.le_of_ble_eq_true rfl) (fun F => ?_)
    try simp only [List.cons_append, List.nil_append]
    refine T.seq ?_
    refine T.region ?_
    refine LW.e rfl (Ef.box [_, _, _, _, _] rfl rfl ?_)
    intro g2
    refine LW.e rfl (Ef.alloc [.int .i64 0, .int .i64 0, .int .i64 0, .slice none 0 0, .slice none 0 0] (by unfold zeroB; kernel_rfl) ?_)
    intro g4
    refine LW.q rfl (Qt.assign rfl) ?_
    refine LW.q rfl (Qt.assign rfl) ?_
    refine LW.done ?_
    refine T.seq ?_
    refine T.region ?_
    first | refine LW.q rfl (Qt.loadAgg [_, _, _, _, _] (by kernel_rfl) rfl ⟨rfl, rfl, rfl, rfl, rfl, trivial⟩) ?_ | refine LW.q rfl (Qt.loadAgg [_, _, _, _, _] (by kernel_rfl) rfl (by exact rdl_flat _ _ _ (by intros; rfl) _ (by omega))) ?_
    refine LW.q rfl (Qt.move rfl) ?_
    refine LW.e rfl (Ef.call (Mw.check B m Q N pt nt ct ph nh ch t hT hn hH hnh hQ hN hl hnw) Try.func26 rfl rfl rfl ?_)
    rintro _ _ ⟨rfl, rfl⟩
    try simp only [List.cons_append, List.nil_append]
    rw [hck]
    refine LW.q rfl (Qt.move rfl) ?_
    refine LW.q rfl (Qt.extr rfl rfl) ?_
    refine LW.q rfl (Qt.extr rfl rfl) ?_
    refine LW.q rfl (Qt.assign rfl) ?_
    refine LW.q rfl (Qt.assign rfl) ?_
    refine LW.done ?_
    refine T.seq ?_
    refine T.seq ?_
    refine T.region ?_
    refine LW.q rfl (Qt.move rfl) ?_
    refine LW.q rfl (Qt.neq rfl rfl) ?_
    refine LW.q rfl (Qt.move rfl) ?_
    first | refine LW.gT (t := 19) rfl rfl ?_ | refine LW.gT (t := 19) rfl (decide_eq_true (hbad.1)) ?_ | refine LW.gT (t := 19) rfl (hbad.1) ?_
    refine LW.q rfl (Qt.move rfl) ?_
    refine LW.q rfl (Qt.neq rfl rfl) ?_
    refine LW.q rfl (Qt.pick rfl rfl) ?_
    refine LW.done ?_
    first | refine T.condT rfl ?_ | refine T.condPT rfl (hbad.2) ?_ | refine T.condBT rfl (hbad.2) ?_
    refine T.seq ?_
    refine T.region ?_
    first | refine LW.q rfl (Qt.loadAgg [_, _, _, _, _] (by kernel_rfl) rfl ⟨rfl, rfl, rfl, rfl, rfl, trivial⟩) ?_ | refine LW.q rfl (Qt.loadAgg [_, _, _, _, _] (by kernel_rfl) rfl (by exact rdl_flat _ _ _ (by intros; rfl) _ (by omega))) ?_
    refine LW.q rfl (Qt.move rfl) ?_
    refine LW.e0 rfl (Ef.store [_, _, _, _, _] (by kernel_rfl) rfl rfl rfl rfl (by simp) ?_)
    try simp only [splice, List.length_cons, List.length_nil, List.drop_succ_cons, List.cons_append, List.take_succ_cons, List.take_zero, List.drop_zero, List.nil_append, List.append_nil]
    refine LW.q rfl (Qt.assign rfl) ?_
    refine LW.q rfl (Qt.assign rfl) ?_
    refine LW.done ?_
    refine T.ret ?_
    exact ⟨.inl rfl, _, _, res [_, _, _] rfl ⟨rvA [_, _, _, _, _] (by kernel_rfl) rfl ⟨rfl, rfl, rfl, rfl, rfl, trivial⟩, rvT rfl, rvT rfl, trivial⟩, ⟨pt, nt, ct, ph, nh, ch, hT, hH, rfl, rfl⟩, Sub.any⟩
  · have hneg : ¬ findR m.T t < 0 := fun h => by rw [rCheck_no h] at hck; cases hck; exact hbad ⟨by decide, by decide⟩
    obtain ⟨i, x, hfi, hx, hxt⟩ := findR_some hneg
    have hil := (List.getElem?_eq_some_iff.1 hx).1
    have he := rCheck_at hfi hx
    by_cases hz : cd = 0 ∧ x.q.ks ≠ []
    · have hr : rCommit m t = ({ m with T := m.T.eraseIdx i, last := st, H := m.H ++ [⟨t, st, x.q⟩] }, st, 0) := by
        unfold rCommit; rw [hck, if_neg hbad, hfi, Int.toNat_natCast, hx]; dsimp only; rw [if_pos hz]
      rw [hr]
      have hxl : 0 < x.q.ks.length := List.length_pos_iff.2 hz.2
      have hql := (hQ.T x (List.mem_of_getElem? hx)).2
      refine Fn.enter2 64 Try.func27 rfl rfl (Nat.le_of_ble_eq_true rfl) (fun F => ?_)
      try simp only [List.cons_append, List.nil_append]
      refine T.seq ?_
      refine T.region ?_
      refine LW.e rfl (Ef.box [_, _, _, _, _] rfl rfl ?_)
      intro g2
      refine LW.e rfl (Ef.alloc [.int .i64 0, .int .i64 0, .int .i64 0, .slice none 0 0, .slice none 0 0] (by unfold zeroB; kernel_rfl) ?_)
      intro g4
      refine LW.q rfl (Qt.assign rfl) ?_
      refine LW.q rfl (Qt.assign rfl) ?_
      refine LW.done ?_
      refine T.seq ?_
      refine T.region ?_
      first | refine LW.q rfl (Qt.loadAgg [_, _, _, _, _] (by kernel_rfl) rfl ⟨rfl, rfl, rfl, rfl, rfl, trivial⟩) ?_ | refine LW.q rfl (Qt.loadAgg [_, _, _, _, _] (by kernel_rfl) rfl (by exact rdl_flat _ _ _ (by intros; rfl) _ (by omega))) ?_
      refine LW.q rfl (Qt.move rfl) ?_
      refine LW.e rfl (Ef.call (Mw.check B m Q N pt nt ct ph nh ch t hT hn hH hnh hQ hN hl hnw) Try.func26 rfl rfl rfl ?_)
      rintro _ _ ⟨rfl, rfl⟩
      try simp only [List.cons_append, List.nil_append]
      rw [show (rCheck m t).1 = st by rw [hck], show (rCheck m t).2 = cd by rw [hck]]
      refine LW.own (fun w ho => ?_)
      obtain ⟨gt, rfl⟩ : ∃ g, pt = some ⟨g, 0, none⟩ := (ho.slice_at (p := pt) (m := nt) (c := ct)).2.1 (by omega)
      clear ho
      refine LW.q rfl (Qt.move rfl) ?_
      refine LW.q rfl (Qt.extr rfl rfl) ?_
      refine LW.q rfl (Qt.extr rfl rfl) ?_
      refine LW.q rfl (Qt.assign rfl) ?_
      refine LW.q rfl (Qt.assign rfl) ?_
      refine LW.done ?_
      refine T.seq ?_
      refine T.seq ?_
      refine T.region ?_
      refine LW.q rfl (Qt.move rfl) ?_
      refine LW.q rfl (Qt.neq rfl rfl) ?_
      refine LW.q rfl (Qt.move rfl) ?_
      first | refine LW.gF (t := 19) rfl rfl ?_ | refine LW.gF (t := 19) rfl (decide_eq_false ((fun h => h hz.1))) ?_ | refine LW.gF (t := 19) rfl ((fun h => h hz.1)) ?_
      refine LW.s rfl ?_
      refine LW.s rfl ?_
      refine LW.q rfl (Qt.pick rfl rfl) ?_
      refine LW.done ?_
      first | refine T.condF rfl ?_ | refine T.condPF rfl (by omega) ?_ | refine T.condBF rfl (by omega) ?_
      refine T.skip ?_
      refine T.seq ?_
      refine T.drawAll 8 (by kernel_rfl) (Nat.le_of_ble_eq_true rfl) (by kernel_rfl) ?_
      refine RW.q 0 rfl rfl (by kernel_rfl) (Sub.refl _) (Qt.fieldAddr (off := 3) (by kernel_rfl) rfl) ?_
      first | refine RW.q 1 rfl rfl (by kernel_rfl) (Sub.refl _) (Qt.load (by kernel_rfl) rfl rfl) ?_ | refine RW.q 1 rfl rfl (by kernel_rfl) (Sub.refl _) (Qt.load (by kernel_rfl) rfl (map_at _ _ _ (by omega))) ?_ | refine RW.q 1 rfl rfl (by kernel_rfl) (Sub.refl _) (Qt.load (by kernel_rfl) rfl (flat_cell0 _ _ _ (by intros; rfl) _ (by omega) (by rfl))) ?_ | refine RW.q 1 rfl rfl (by kernel_rfl) (Sub.refl _) (Qt.load (by kernel_rfl) rfl (flat_cell _ _ _ (by intros; rfl) _ _ (by omega) (by rfl))) ?_ | refine RW.q 1 rfl rfl (by kernel_rfl) (Sub.refl _) (Qt.load (by kernel_rfl) rfl (bytes_at _ _ (by omega))) ?_
      first | refine RW.q 2 rfl rfl (by kernel_rfl) (Sub.refl _) (Qt.loadAgg [_, _, _, _, _] (by kernel_rfl) rfl ⟨rfl, rfl, rfl, rfl, rfl, trivial⟩) ?_ | refine RW.q 2 rfl rfl (by kernel_rfl) (Sub.refl _) (Qt.loadAgg [_, _, _, _, _] (by kernel_rfl) rfl (by exact rdl_flat _ _ _ (by intros; rfl) _ (by omega))) ?_
      refine RW.q 3 rfl rfl (by kernel_rfl) (Sub.refl _) (Qt.move rfl) ?_
      refine RW.all [4, 7] (by kernel_rfl) (List.forall_mem_cons.2 ⟨?_, List.forall_mem_cons.2 ⟨?_, List.forall_mem_nil _⟩⟩)
      · skip
        refine RO.e rfl rfl (Ef.call (Mw.find B m (some ⟨gt, 0, none⟩) nt ct ph nh ch t hT hn) Try.func30 rfl rfl rfl ?_)
        rintro _ _ ⟨rfl, rfl⟩
        try simp only [List.cons_append, List.nil_append]
        rw [hfi]
        refine ⟨Sub.any, ?_⟩
        refine RW.q 5 rfl rfl (by kernel_rfl) (Sub.refl _) (Qt.index _ (e := 60) (sz := 3) (by kernel_rfl) rfl rfl rfl (by omega)) ?_
        refine RW.q 6 rfl rfl (by kernel_rfl) (Sub.refl _) (Qt.loadAgg [_, _, _] (by kernel_rfl) rfl (load_rt hx)) ?_
        refine RW.one 7 (by kernel_rfl) ?_
        refine RO.e rfl rfl (Ef.alloc [.int .i64 0, .int .i64 0, .slice none 0 0] (by unfold zeroB; kernel_rfl) ?_)
        intro g9
        refine ⟨Sub.any, ?_⟩
        refine RW.done (by rfl) ?_
        simp only [List.drop_succ_cons, List.drop_zero, List.drop_nil]
        refine LW.e0 rfl (Ef.store [_, _, _] (by kernel_rfl) rfl rfl rfl rfl (by simp) ?_)
        try simp only [splice, List.length_cons, List.length_nil, List.drop_succ_cons, List.cons_append, List.take_succ_cons, List.take_zero, List.drop_zero, List.nil_append, List.append_nil]
        refine LW.done ?_
        refine T.seq ?_
        refine T.region ?_
        first | refine LW.q rfl (Qt.loadAgg [_, _, _, _, _] (by kernel_rfl) rfl ⟨rfl, rfl, rfl, rfl, rfl, trivial⟩) ?_ | refine LW.q rfl (Qt.loadAgg [_, _, _, _, _] (by kernel_rfl) rfl (by exact rdl_flat _ _ _ (by intros; rfl) _ (by omega))) ?_
        refine LW.q rfl (Qt.move rfl) ?_
        refine LW.e rfl (Ef.call (Mw.without B m (some ⟨gt, 0, none⟩) nt ct ph nh ch t hT hn i hfi (by omega)) Try.func28 rfl rfl rfl ?_)
        rintro _ _ ⟨p3, c3, n3, hn3, rfl, rfl⟩
        try simp only [List.cons_append, List.nil_append]
        refine LW.q rfl (Qt.move rfl) ?_
        refine LW.q rfl (Qt.extr rfl rfl) ?_
        refine LW.q rfl (Qt.extr rfl rfl) ?_
        refine LW.e0 rfl (Ef.store [_, _, _, _, _] (by kernel_rfl) rfl rfl rfl rfl (by simp) ?_)
        try simp only [splice, List.length_cons, List.length_nil, List.drop_succ_cons, List.cons_append, List.take_succ_cons, List.take_zero, List.drop_zero, List.nil_append, List.append_nil]
        refine LW.done ?_
        refine T.seq ?_
        refine T.seq ?_
        refine T.region ?_
        refine LW.q rfl (Qt.move rfl) ?_
        refine LW.q rfl (Qt.eql rfl rfl) ?_
        refine LW.q rfl (Qt.move rfl) ?_
        first | refine LW.gT (t := 40) rfl rfl ?_ | refine LW.gT (t := 40) rfl (decide_eq_true (hz.1)) ?_ | refine LW.gT (t := 40) rfl (hz.1) ?_
        refine LW.q rfl (Qt.fieldAddr (off := 2) (by kernel_rfl) rfl) ?_
        first | refine LW.q rfl (Qt.load (by kernel_rfl) rfl rfl) ?_ | refine LW.q rfl (Qt.load (by kernel_rfl) rfl (map_at _ _ _ (by omega))) ?_ | refine LW.q rfl (Qt.load (by kernel_rfl) rfl (flat_cell0 _ _ _ (by intros; rfl) _ (by omega) (by rfl))) ?_ | refine LW.q rfl (Qt.load (by kernel_rfl) rfl (flat_cell _ _ _ (by intros; rfl) _ _ (by omega) (by rfl))) ?_ | refine LW.q rfl (Qt.load (by kernel_rfl) rfl (bytes_at _ _ (by omega))) ?_
        refine LW.q rfl (Qt.len (e := 9) (sz := 1) (by kernel_rfl) rfl) ?_
        refine LW.q rfl (Qt.gtr rfl rfl) ?_
        refine LW.q rfl (Qt.pick rfl rfl) ?_
        refine LW.done ?_
        first | refine T.condT rfl ?_ | refine T.condPT rfl (by omega) ?_ | refine T.condBT rfl (by omega) ?_
        refine T.seq ?_
        refine T.region ?_
        refine LW.q rfl (Qt.move rfl) ?_
        refine LW.q rfl (Qt.fieldAddr (off := 1) (by kernel_rfl) rfl) ?_
        refine LW.e0 rfl (Ef.store1 (by kernel_rfl) rfl rfl rfl (by first | (simp; done) | (simp; omega)) ?_)
        try simp only [List.set_cons_zero, List.set_cons_succ]
        refine LW.done ?_
        refine T.seq ?_
        refine T.region ?_
        refine LW.e rfl (Ef.empty Mw.elemH ?_)
        rintro g48
        try simp only [List.cons_append, List.nil_append]
        refine LW.q rfl (Qt.fieldAddr (off := 4) (by kernel_rfl) rfl) ?_
        first | refine LW.q rfl (Qt.load (by kernel_rfl) rfl rfl) ?_ | refine LW.q rfl (Qt.load (by kernel_rfl) rfl (map_at _ _ _ (by omega))) ?_ | refine LW.q rfl (Qt.load (by kernel_rfl) rfl (flat_cell0 _ _ _ (by intros; rfl) _ (by omega) (by rfl))) ?_ | refine LW.q rfl (Qt.load (by kernel_rfl) rfl (flat_cell _ _ _ (by intros; rfl) _ _ (by omega) (by rfl))) ?_ | refine LW.q rfl (Qt.load (by kernel_rfl) rfl (bytes_at _ _ (by omega))) ?_
        refine LW.e rfl (Ef.append Mw.elemH rfl rfl (SrcOf.row (by kernel_rfl) one_rh) (by unfold maxLen; omega) (by omega) ?_)
        rintro p4 c4 hp4
        try simp only [List.cons_append, List.nil_append]
        simp only [Nat.zero_add, List.nil_append]
        refine LW.q rfl (Qt.assign rfl) ?_
        refine LW.done ?_
        refine T.region ?_
        refine LW.q rfl (Qt.move rfl) ?_
        refine LW.q rfl (Qt.move rfl) ?_
        refine LW.q rfl (Qt.move rfl) ?_
        refine LW.q rfl (Qt.fieldAddr (off := 2) (by kernel_rfl) rfl) ?_
        first | refine LW.q rfl (Qt.load (by kernel_rfl) rfl rfl) ?_ | refine LW.q rfl (Qt.load (by kernel_rfl) rfl (map_at _ _ _ (by omega))) ?_ | refine LW.q rfl (Qt.load (by kernel_rfl) rfl (flat_cell0 _ _ _ (by intros; rfl) _ (by omega) (by rfl))) ?_ | refine LW.q rfl (Qt.load (by kernel_rfl) rfl (flat_cell _ _ _ (by intros; rfl) _ _ (by omega) (by rfl))) ?_ | refine LW.q rfl (Qt.load (by kernel_rfl) rfl (bytes_at _ _ (by omega))) ?_
        refine LW.q rfl (Qt.build [(0, 1), (1, 1), (2, 1)] [.int .i64 0, .int .i64 0, .slice none 0 0] [_, _, _] [(0, _), (1, _), (2, _)] (by kernel_rfl) (by unfold zeroB; kernel_rfl) rfl rfl) ?_
        refine LW.e rfl (Ef.one [_, _, _] (e := 83) (sz := 3) (by kernel_rfl) ⟨.agg #[.int .i64 0, .int .i64 0, .slice none 0 0], by kernel_rfl, rfl⟩ rfl rfl rfl (by omega) (by omega) ?_)
        intro g58
        refine LW.e rfl (Ef.append Mw.elemH rfl rfl (SrcOf.blk (by kernel_rfl) rfl (by simp [Value.oneCell'])) (by unfold maxLen; omega) (by omega) ?_)
        rintro p5 c5 hp5
        try simp only [List.cons_append, List.nil_append]
        rw [show m.H.flatMap rhC ++ [Value.int .i64 t, Value.int .i64 st, kqV x.q] = (m.H ++ [(⟨t, st, x.q⟩ : Rh)]).flatMap rhC by simp]
        refine LW.q rfl (Qt.fieldAddr (off := 4) (by kernel_rfl) rfl) ?_
        refine LW.e0 rfl (Ef.store1 (by kernel_rfl) rfl rfl rfl (by first | (simp; done) | (simp; omega)) ?_)
        try simp only [List.set_cons_zero, List.set_cons_succ]
        refine LW.done ?_
        refine T.seq ?_
        refine T.region ?_
        first | refine LW.q rfl (Qt.loadAgg [_, _, _, _, _] (by kernel_rfl) rfl ⟨rfl, rfl, rfl, rfl, rfl, trivial⟩) ?_ | refine LW.q rfl (Qt.loadAgg [_, _, _, _, _] (by kernel_rfl) rfl (by exact rdl_flat _ _ _ (by intros; rfl) _ (by omega))) ?_
        refine LW.q rfl (Qt.move rfl) ?_
        refine LW.q rfl (Qt.move rfl) ?_
        refine LW.e0 rfl (Ef.store [_, _, _, _, _] (by kernel_rfl) rfl rfl rfl rfl (by simp) ?_)
        try simp only [splice, List.length_cons, List.length_nil, List.drop_succ_cons, List.cons_append, List.take_succ_cons, List.take_zero, List.drop_zero, List.nil_append, List.append_nil]
        refine LW.q rfl (Qt.assign rfl) ?_
        refine LW.q rfl (Qt.assign rfl) ?_
        refine LW.done ?_
        refine T.ret ?_
        exact ⟨.inl rfl, _, _, res [_, _, _] rfl ⟨rvA [_, _, _, _, _] (by kernel_rfl) rfl ⟨rfl, rfl, rfl, rfl, rfl, trivial⟩, rvT rfl, rvT rfl, trivial⟩, ⟨p3, n3, c3, p5, nh + 1, c5, by rw [List.length_eraseIdx_of_lt (by omega)]; omega, by simp [hH], by rw [hz.1]; rfl, rfl⟩, Sub.any⟩
      · skip
        refine RO.e rfl rfl (Ef.alloc [.int .i64 0, .int .i64 0, .slice none 0 0] (by unfold zeroB; kernel_rfl) ?_)
        intro g9
        refine ⟨Sub.any, ?_⟩
        refine RW.one 4 (by kernel_rfl) ?_
        refine RO.e rfl rfl (Ef.call (Mw.find B m (some ⟨gt, 0, none⟩) nt ct ph nh ch t hT hn) Try.func30 rfl rfl rfl ?_)
        rintro _ _ ⟨rfl, rfl⟩
        try simp only [List.cons_append, List.nil_append]
        rw [hfi]
        refine ⟨Sub.any, ?_⟩
        refine RW.q 5 rfl rfl (by kernel_rfl) (Sub.refl _) (Qt.index _ (e := 60) (sz := 3) (by kernel_rfl) rfl rfl rfl (by omega)) ?_
        refine RW.q 6 rfl rfl (by kernel_rfl) (Sub.refl _) (Qt.loadAgg [_, _, _] (by kernel_rfl) rfl (load_rt hx)) ?_
        refine RW.done (by rfl) ?_
        simp only [List.drop_succ_cons, List.drop_zero, List.drop_nil]
        refine LW.e0 rfl (Ef.store [_, _, _] (by kernel_rfl) rfl rfl rfl rfl (by simp) ?_)
        try simp only [splice, List.length_cons, List.length_nil, List.drop_succ_cons, List.cons_append, List.take_succ_cons, List.take_zero, List.drop_zero, List.nil_append, List.append_nil]
        refine LW.done ?_
        refine T.seq ?_
        refine T.region ?_
        first | refine LW.q rfl (Qt.loadAgg [_, _, _, _, _] (by kernel_rfl) rfl ⟨rfl, rfl, rfl, rfl, rfl, trivial⟩) ?_ | refine LW.q rfl (Qt.loadAgg [_, _, _, _, _] (by kernel_rfl) rfl (by exact rdl_flat _ _ _ (by intros; rfl) _ (by omega))) ?_
        refine LW.q rfl (Qt.move rfl) ?_
        refine LW.e rfl (Ef.call (Mw.without B m (some ⟨gt, 0, none⟩) nt ct ph nh ch t hT hn i hfi (by omega)) Try.func28 rfl rfl rfl ?_)
        rintro _ _ ⟨p3, c3, n3, hn3, rfl, rfl⟩
        try simp only [List.cons_append, List.nil_append]
        refine LW.q rfl (Qt.move rfl) ?_
        refine LW.q rfl (Qt.extr rfl rfl) ?_
        refine LW.q rfl (Qt.extr rfl rfl) ?_
        refine LW.e0 rfl (Ef.store [_, _, _, _, _] (by kernel_rfl) rfl rfl rfl rfl (by simp) ?_)
        try simp only [splice, List.length_cons, List.length_nil, List.drop_succ_cons, List.cons_append, List.take_succ_cons, List.take_zero, List.drop_zero, List.nil_append, List.append_nil]
        refine LW.done ?_
        refine T.seq ?_
        refine T.seq ?_
        refine T.region ?_
        refine LW.q rfl (Qt.move rfl) ?_
        refine LW.q rfl (Qt.eql rfl rfl) ?_
        refine LW.q rfl (Qt.move rfl) ?_
        first | refine LW.gT (t := 40) rfl rfl ?_ | refine LW.gT (t := 40) rfl (decide_eq_true (hz.1)) ?_ | refine LW.gT (t := 40) rfl (hz.1) ?_
        refine LW.q rfl (Qt.fieldAddr (off := 2) (by kernel_rfl) rfl) ?_
        first | refine LW.q rfl (Qt.load (by kernel_rfl) rfl rfl) ?_ | refine LW.q rfl (Qt.load (by kernel_rfl) rfl (map_at _ _ _ (by omega))) ?_ | refine LW.q rfl (Qt.load (by kernel_rfl) rfl (flat_cell0 _ _ _ (by intros; rfl) _ (by omega) (by rfl))) ?_ | refine LW.q rfl (Qt.load (by kernel_rfl) rfl (flat_cell _ _ _ (by intros; rfl) _ _ (by omega) (by rfl))) ?_ | refine LW.q rfl (Qt.load (by kernel_rfl) rfl (bytes_at _ _ (by omega))) ?_
        refine LW.q rfl (Qt.len (e := 9) (sz := 1) (by kernel_rfl) rfl) ?_
        refine LW.q rfl (Qt.gtr rfl rfl) ?_
        refine LW.q rfl (Qt.pick rfl rfl) ?_
        refine LW.done ?_
        first | refine T.condT rfl ?_ | refine T.condPT rfl (by omega) ?_ | refine T.condBT rfl (by omega) ?_
        refine T.seq ?_
        refine T.region ?_
        refine LW.q rfl (Qt.move rfl) ?_
        refine LW.q rfl (Qt.fieldAddr (off := 1) (by kernel_rfl) rfl) ?_
        refine LW.e0 rfl (Ef.store1 (by kernel_rfl) rfl rfl rfl (by first | (simp; done) | (simp; omega)) ?_)
        try simp only [List.set_cons_zero, List.set_cons_succ]
        refine LW.done ?_
        refine T.seq ?_
        refine T.region ?_
        refine LW.e rfl (Ef.empty Mw.elemH ?_)
        rintro g48
        try simp only [List.cons_append, List.nil_append]
        refine LW.q rfl (Qt.fieldAddr (off := 4) (by kernel_rfl) rfl) ?_
        first | refine LW.q rfl (Qt.load (by kernel_rfl) rfl rfl) ?_ | refine LW.q rfl (Qt.load (by kernel_rfl) rfl (map_at _ _ _ (by omega))) ?_ | refine LW.q rfl (Qt.load (by kernel_rfl) rfl (flat_cell0 _ _ _ (by intros; rfl) _ (by omega) (by rfl))) ?_ | refine LW.q rfl (Qt.load (by kernel_rfl) rfl (flat_cell _ _ _ (by intros; rfl) _ _ (by omega) (by rfl))) ?_ | refine LW.q rfl (Qt.load (by kernel_rfl) rfl (bytes_at _ _ (by omega))) ?_
        refine LW.e rfl (Ef.append Mw.elemH rfl rfl (SrcOf.row (by kernel_rfl) one_rh) (by unfold maxLen; omega) (by omega) ?_)
        rintro p4 c4 hp4
        try simp only [List.cons_append, List.nil_append]
        simp only [Nat.zero_add, List.nil_append]
        refine LW.q rfl (Qt.assign rfl) ?_
        refine LW.done ?_
        refine T.region ?_
        refine LW.q rfl (Qt.move rfl) ?_
        refine LW.q rfl (Qt.move rfl) ?_
        refine LW.q rfl (Qt.move rfl) ?_
        refine LW.q rfl (Qt.fieldAddr (off := 2) (by kernel_rfl) rfl) ?_
        first | refine LW.q rfl (Qt.load (by kernel_rfl) rfl rfl) ?_ | refine LW.q rfl (Qt.load (by kernel_rfl) rfl (map_at _ _ _ (by omega))) ?_ | refine LW.q rfl (Qt.load (by kernel_rfl) rfl (flat_cell0 _ _ _ (by intros; rfl) _ (by omega) (by rfl))) ?_ | refine LW.q rfl (Qt.load (by kernel_rfl) rfl (flat_cell _ _ _ (by intros; rfl) _ _ (by omega) (by rfl))) ?_ | refine LW.q rfl (Qt.load (by kernel_rfl) rfl (bytes_at _ _ (by omega))) ?_
        refine LW.q rfl (Qt.build [(0, 1), (1, 1), (2, 1)] [.int .i64 0, .int .i64 0, .slice none 0 0] [_, _, _] [(0, _), (1, _), (2, _)] (by kernel_rfl) (by unfold zeroB; kernel_rfl) rfl rfl) ?_
        refine LW.e rfl (Ef.one [_, _, _] (e := 83) (sz := 3) (by kernel_rfl) ⟨.agg #[.int .i64 0, .int .i64 0, .slice none 0 0], by kernel_rfl, rfl⟩ rfl rfl rfl (by omega) (by omega) ?_)
        intro g58
        refine LW.e rfl (Ef.append Mw.elemH rfl rfl (SrcOf.blk (by kernel_rfl) rfl (by simp [Value.oneCell'])) (by unfold maxLen; omega) (by omega) ?_)
        rintro p5 c5 hp5
        try simp only [List.cons_append, List.nil_append]
        rw [show m.H.flatMap rhC ++ [Value.int .i64 t, Value.int .i64 st, kqV x.q] = (m.H ++ [(⟨t, st, x.q⟩ : Rh)]).flatMap rhC by simp]
        refine LW.q rfl (Qt.fieldAddr (off := 4) (by kernel_rfl) rfl) ?_
        refine LW.e0 rfl (Ef.store1 (by kernel_rfl) rfl rfl rfl (by first | (simp; done) | (simp; omega)) ?_)
        try simp only [List.set_cons_zero, List.set_cons_succ]
        refine LW.done ?_
        refine T.seq ?_
        refine T.region ?_
        first | refine LW.q rfl (Qt.loadAgg [_, _, _, _, _] (by kernel_rfl) rfl ⟨rfl, rfl, rfl, rfl, rfl, trivial⟩) ?_ | refine LW.q rfl (Qt.loadAgg [_, _, _, _, _] (by kernel_rfl) rfl (by exact rdl_flat _ _ _ (by intros; rfl) _ (by omega))) ?_
        refine LW.q rfl (Qt.move rfl) ?_
        refine LW.q rfl (Qt.move rfl) ?_
        refine LW.e0 rfl (Ef.store [_, _, _, _, _] (by kernel_rfl) rfl rfl rfl rfl (by simp) ?_)
        try simp only [splice, List.length_cons, List.length_nil, List.drop_succ_cons, List.cons_append, List.take_succ_cons, List.take_zero, List.drop_zero, List.nil_append, List.append_nil]
        refine LW.q rfl (Qt.assign rfl) ?_
        refine LW.q rfl (Qt.assign rfl) ?_
        refine LW.done ?_
        refine T.ret ?_
        exact ⟨.inl rfl, _, _, res [_, _, _] rfl ⟨rvA [_, _, _, _, _] (by kernel_rfl) rfl ⟨rfl, rfl, rfl, rfl, rfl, trivial⟩, rvT rfl, rvT rfl, trivial⟩, ⟨p3, n3, c3, p5, nh + 1, c5, by rw [List.length_eraseIdx_of_lt (by omega)]; omega, by simp [hH], by rw [hz.1]; rfl, rfl⟩, Sub.any⟩
    · have hr : rCommit m t = ({ m with T := m.T.eraseIdx i }, st, cd) := by
        unfold rCommit; rw [hck, if_neg hbad, hfi, Int.toNat_natCast, hx]; dsimp only; rw [if_neg hz]
      rw [hr]
      refine Fn.enter2 64 Try.func27 rfl rfl (Nat.le_of_ble_eq_true rfl) (fun F => ?_)
      try simp only [List.cons_append, List.nil_append]
      refine T.seq ?_
      refine T.region ?_
      refine LW.e rfl (Ef.box [_, _, _, _, _] rfl rfl ?_)
      intro g2
      refine LW.e rfl (Ef.alloc [.int .i64 0, .int .i64 0, .int .i64 0, .slice none 0 0, .slice none 0 0] (by unfold zeroB; kernel_rfl) ?_)
      intro g4
      refine LW.q rfl (Qt.assign rfl) ?_
      refine LW.q rfl (Qt.assign rfl) ?_
      refine LW.done ?_
      refine T.seq ?_
      refine T.region ?_
      first | refine LW.q rfl (Qt.loadAgg [_, _, _, _, _] (by kernel_rfl) rfl ⟨rfl, rfl, rfl, rfl, rfl, trivial⟩) ?_ | refine LW.q rfl (Qt.loadAgg [_, _, _, _, _] (by kernel_rfl) rfl (by exact rdl_flat _ _ _ (by intros; rfl) _ (by omega))) ?_
      refine LW.q rfl (Qt.move rfl) ?_
      refine LW.e rfl (Ef.call (Mw.check B m Q N pt nt ct ph nh ch t hT hn hH hnh hQ hN hl hnw) Try.func26 rfl rfl rfl ?_)
      rintro _ _ ⟨rfl, rfl⟩
      try simp only [List.cons_append, List.nil_append]
      rw [show (rCheck m t).1 = st by rw [hck], show (rCheck m t).2 = cd by rw [hck]]
      refine LW.own (fun w ho => ?_)
      obtain ⟨gt, rfl⟩ : ∃ g, pt = some ⟨g, 0, none⟩ := (ho.slice_at (p := pt) (m := nt) (c := ct)).2.1 (by omega)
      clear ho
      refine LW.q rfl (Qt.move rfl) ?_
      refine LW.q rfl (Qt.extr rfl rfl) ?_
      refine LW.q rfl (Qt.extr rfl rfl) ?_
      refine LW.q rfl (Qt.assign rfl) ?_
      refine LW.q rfl (Qt.assign rfl) ?_
      refine LW.done ?_
      refine T.seq ?_
      refine T.seq ?_
      refine T.region ?_
      refine LW.q rfl (Qt.move rfl) ?_
      refine LW.q rfl (Qt.neq rfl rfl) ?_
      refine LW.q rfl (Qt.move rfl) ?_
      refine LW.split (t := 19) rfl (fun h0 => ?_) (fun h0 => ?_)
      · skip
        try replace h0 := of_decide_eq_true h0
        refine LW.q rfl (Qt.move rfl) ?_
        refine LW.q rfl (Qt.neq rfl rfl) ?_
        refine LW.q rfl (Qt.pick rfl rfl) ?_
        refine LW.done ?_
        first | refine T.condF rfl ?_ | refine T.condPF rfl ((fun h => hbad ⟨h0, h⟩)) ?_ | refine T.condBF rfl ((fun h => hbad ⟨h0, h⟩)) ?_
        refine T.skip ?_
        refine T.seq ?_
        refine T.drawAll 8 (by kernel_rfl) (Nat.le_of_ble_eq_true rfl) (by kernel_rfl) ?_
        refine RW.q 0 rfl rfl (by kernel_rfl) (Sub.refl _) (Qt.fieldAddr (off := 3) (by kernel_rfl) rfl) ?_
        first | refine RW.q 1 rfl rfl (by kernel_rfl) (Sub.refl _) (Qt.load (by kernel_rfl) rfl rfl) ?_ | refine RW.q 1 rfl rfl (by kernel_rfl) (Sub.refl _) (Qt.load (by kernel_rfl) rfl (map_at _ _ _ (by omega))) ?_ | refine RW.q 1 rfl rfl (by kernel_rfl) (Sub.refl _) (Qt.load (by kernel_rfl) rfl (flat_cell0 _ _ _ (by intros; rfl) _ (by omega) (by rfl))) ?_ | refine RW.q 1 rfl rfl (by kernel_rfl) (Sub.refl _) (Qt.load (by kernel_rfl) rfl (flat_cell _ _ _ (by intros; rfl) _ _ (by omega) (by rfl))) ?_ | refine RW.q 1 rfl rfl (by kernel_rfl) (Sub.refl _) (Qt.load (by kernel_rfl) rfl (bytes_at _ _ (by omega))) ?_
        first | refine RW.q 2 rfl rfl (by kernel_rfl) (Sub.refl _) (Qt.loadAgg [_, _, _, _, _] (by kernel_rfl) rfl ⟨rfl, rfl, rfl, rfl, rfl, trivial⟩) ?_ | refine RW.q 2 rfl rfl (by kernel_rfl) (Sub.refl _) (Qt.loadAgg [_, _, _, _, _] (by kernel_rfl) rfl (by exact rdl_flat _ _ _ (by intros; rfl) _ (by omega))) ?_
        refine RW.q 3 rfl rfl (by kernel_rfl) (Sub.refl _) (Qt.move rfl) ?_
        refine RW.all [4, 7] (by kernel_rfl) (List.forall_mem_cons.2 ⟨?_, List.forall_mem_cons.2 ⟨?_, List.forall_mem_nil _⟩⟩)
        · skip
          refine RO.e rfl rfl (Ef.call (Mw.find B m (some ⟨gt, 0, none⟩) nt ct ph nh ch t hT hn) Try.func30 rfl rfl rfl ?_)
          rintro _ _ ⟨rfl, rfl⟩
          try simp only [List.cons_append, List.nil_append]
          rw [hfi]
          refine ⟨Sub.any, ?_⟩
          refine RW.q 5 rfl rfl (by kernel_rfl) (Sub.refl _) (Qt.index _ (e := 60) (sz := 3) (by kernel_rfl) rfl rfl rfl (by omega)) ?_
          refine RW.q 6 rfl rfl (by kernel_rfl) (Sub.refl _) (Qt.loadAgg [_, _, _] (by kernel_rfl) rfl (load_rt hx)) ?_
          refine RW.one 7 (by kernel_rfl) ?_
          refine RO.e rfl rfl (Ef.alloc [.int .i64 0, .int .i64 0, .slice none 0 0] (by unfold zeroB; kernel_rfl) ?_)
          intro g9
          refine ⟨Sub.any, ?_⟩
          refine RW.done (by rfl) ?_
          simp only [List.drop_succ_cons, List.drop_zero, List.drop_nil]
          refine LW.e0 rfl (Ef.store [_, _, _] (by kernel_rfl) rfl rfl rfl rfl (by simp) ?_)
          try simp only [splice, List.length_cons, List.length_nil, List.drop_succ_cons, List.cons_append, List.take_succ_cons, List.take_zero, List.drop_zero, List.nil_append, List.append_nil]
          refine LW.done ?_
          refine T.seq ?_
          refine T.region ?_
          first | refine LW.q rfl (Qt.loadAgg [_, _, _, _, _] (by kernel_rfl) rfl ⟨rfl, rfl, rfl, rfl, rfl, trivial⟩) ?_ | refine LW.q rfl (Qt.loadAgg [_, _, _, _, _] (by kernel_rfl) rfl (by exact rdl_flat _ _ _ (by intros; rfl) _ (by omega))) ?_
          refine LW.q rfl (Qt.move rfl) ?_
          refine LW.e rfl (Ef.call (Mw.without B m (some ⟨gt, 0, none⟩) nt ct ph nh ch t hT hn i hfi (by omega)) Try.func28 rfl rfl rfl ?_)
          rintro _ _ ⟨p3, c3, n3, hn3, rfl, rfl⟩
          try simp only [List.cons_append, List.nil_append]
          refine LW.q rfl (Qt.move rfl) ?_
          refine LW.q rfl (Qt.extr rfl rfl) ?_
          refine LW.q rfl (Qt.extr rfl rfl) ?_
          refine LW.e0 rfl (Ef.store [_, _, _, _, _] (by kernel_rfl) rfl rfl rfl rfl (by simp) ?_)
          try simp only [splice, List.length_cons, List.length_nil, List.drop_succ_cons, List.cons_append, List.take_succ_cons, List.take_zero, List.drop_zero, List.nil_append, List.append_nil]
          refine LW.done ?_
          refine T.seq ?_
          refine T.seq ?_
          refine T.region ?_
          refine LW.q rfl (Qt.move rfl) ?_
          refine LW.q rfl (Qt.eql rfl rfl) ?_
          refine LW.q rfl (Qt.move rfl) ?_
          first | refine LW.gF (t := 40) rfl rfl ?_ | refine LW.gF (t := 40) rfl (decide_eq_false (h0)) ?_ | refine LW.gF (t := 40) rfl (h0) ?_
          refine LW.s rfl ?_
          refine LW.s rfl ?_
          refine LW.s rfl ?_
          refine LW.s rfl ?_
          refine LW.q rfl (Qt.pick rfl rfl) ?_
          refine LW.done ?_
          first | refine T.condF rfl ?_ | refine T.condPF rfl (by omega) ?_ | refine T.condBF rfl (by omega) ?_
          refine T.skip ?_
          refine T.seq ?_
          refine T.region ?_
          first | refine LW.q rfl (Qt.loadAgg [_, _, _, _, _] (by kernel_rfl) rfl ⟨rfl, rfl, rfl, rfl, rfl, trivial⟩) ?_ | refine LW.q rfl (Qt.loadAgg [_, _, _, _, _] (by kernel_rfl) rfl (by exact rdl_flat _ _ _ (by intros; rfl) _ (by omega))) ?_
          refine LW.q rfl (Qt.move rfl) ?_
          refine LW.q rfl (Qt.move rfl) ?_
          refine LW.e0 rfl (Ef.store [_, _, _, _, _] (by kernel_rfl) rfl rfl rfl rfl (by simp) ?_)
          try simp only [splice, List.length_cons, List.length_nil, List.drop_succ_cons, List.cons_append, List.take_succ_cons, List.take_zero, List.drop_zero, List.nil_append, List.append_nil]
          refine LW.q rfl (Qt.assign rfl) ?_
          refine LW.q rfl (Qt.assign rfl) ?_
          refine LW.done ?_
          refine T.ret ?_
          exact ⟨.inl rfl, _, _, res [_, _, _] rfl ⟨rvA [_, _, _, _, _] (by kernel_rfl) rfl ⟨rfl, rfl, rfl, rfl, rfl, trivial⟩, rvT rfl, rvT rfl, trivial⟩, ⟨p3, n3, c3, ph, nh, ch, by rw [List.length_eraseIdx_of_lt (by omega)]; omega, hH, rfl, rfl⟩, Sub.any⟩
        · skip
          refine RO.e rfl rfl (Ef.alloc [.int .i64 0, .int .i64 0, .slice none 0 0] (by unfold zeroB; kernel_rfl) ?_)
          intro g9
          refine ⟨Sub.any, ?_⟩
          refine RW.one 4 (by kernel_rfl) ?_
          refine RO.e rfl rfl (Ef.call (Mw.find B m (some ⟨gt, 0, none⟩) nt ct ph nh ch t hT hn) Try.func30 rfl rfl rfl ?_)
          rintro _ _ ⟨rfl, rfl⟩
          try simp only [List.cons_append, List.nil_append]
          rw [hfi]
          refine ⟨Sub.any, ?_⟩
          refine RW.q 5 rfl rfl (by kernel_rfl) (Sub.refl _) (Qt.index _ (e := 60) (sz := 3) (by kernel_rfl) rfl rfl rfl (by omega)) ?_
          refine RW.q 6 rfl rfl (by kernel_rfl) (Sub.refl _) (Qt.loadAgg [_, _, _] (by kernel_rfl) rfl (load_rt hx)) ?_
          refine RW.done (by rfl) ?_
          simp only [List.drop_succ_cons, List.drop_zero, List.drop_nil]
          refine LW.e0 rfl (Ef.store [_, _, _] (by kernel_rfl) rfl rfl rfl rfl (by simp) ?_)
          try simp only [splice, List.length_cons, List.length_nil, List.drop_succ_cons, List.cons_append, List.take_succ_cons, List.take_zero, List.drop_zero, List.nil_append, List.append_nil]
          refine LW.done ?_
          refine T.seq ?_
          refine T.region ?_
          first | refine LW.q rfl (Qt.loadAgg [_, _, _, _, _] (by kernel_rfl) rfl ⟨rfl, rfl, rfl, rfl, rfl, trivial⟩) ?_ | refine LW.q rfl (Qt.loadAgg [_, _, _, _, _] (by kernel_rfl) rfl (by exact rdl_flat _ _ _ (by intros; rfl) _ (by omega))) ?_
          refine LW.q rfl (Qt.move rfl) ?_
          refine LW.e rfl (Ef.call (Mw.without B m (some ⟨gt, 0, none⟩) nt ct ph nh ch t hT hn i hfi (by omega)) Try.func28 rfl rfl rfl ?_)
          rintro _ _ ⟨p3, c3, n3, hn3, rfl, rfl⟩
          try simp only [List.cons_append, List.nil_append]
          refine LW.q rfl (Qt.move rfl) ?_
          refine LW.q rfl (Qt.extr rfl rfl) ?_
          refine LW.q rfl (Qt.extr rfl rfl) ?_
          refine LW.e0 rfl (Ef.store [_, _, _, _, _] (by kernel_rfl) rfl rfl rfl rfl (by simp) ?_)
          try simp only [splice, List.length_cons, List.length_nil, List.drop_succ_cons, List.cons_append, List.take_succ_cons, List.take_zero, List.drop_zero, List.nil_append, List.append_nil]
          refine LW.done ?_
          refine T.seq ?_
          refine T.seq ?_
          refine T.region ?_
          refine LW.q rfl (Qt.move rfl) ?_
          refine LW.q rfl (Qt.eql rfl rfl) ?_
          refine LW.q rfl (Qt.move rfl) ?_
          first | refine LW.gF (t := 40) rfl rfl ?_ | refine LW.gF (t := 40) rfl (decide_eq_false (h0)) ?_ | refine LW.gF (t := 40) rfl (h0) ?_
          refine LW.s rfl ?_
          refine LW.s rfl ?_
          refine LW.s rfl ?_
          refine LW.s rfl ?_
          refine LW.q rfl (Qt.pick rfl rfl) ?_
          refine LW.done ?_
          first | refine T.condF rfl ?_ | refine T.condPF rfl (by omega) ?_ | refine T.condBF rfl (by omega) ?_
          refine T.skip ?_
          refine T.seq ?_
          refine T.region ?_
          first | refine LW.q rfl (Qt.loadAgg [_, _, _, _, _] (by kernel_rfl) rfl ⟨rfl, rfl, rfl, rfl, rfl, trivial⟩) ?_ | refine LW.q rfl (Qt.loadAgg [_, _, _, _, _] (by kernel_rfl) rfl (by exact rdl_flat _ _ _ (by intros; rfl) _ (by omega))) ?_
          refine LW.q rfl (Qt.move rfl) ?_
          refine LW.q rfl (Qt.move rfl) ?_
          refine LW.e0 rfl (Ef.store [_, _, _, _, _] (by kernel_rfl) rfl rfl rfl rfl (by simp) ?_)
          try simp only [splice, List.length_cons, List.length_nil, List.drop_succ_cons, List.cons_append, List.take_succ_cons, List.take_zero, List.drop_zero, List.nil_append, List.append_nil]
          refine LW.q rfl (Qt.assign rfl) ?_
          refine LW.q rfl (Qt.assign rfl) ?_
          refine LW.done ?_
          refine T.ret ?_
          exact ⟨.inl rfl, _, _, res [_, _, _] rfl ⟨rvA [_, _, _, _, _] (by kernel_rfl) rfl ⟨rfl, rfl, rfl, rfl, rfl, trivial⟩, rvT rfl, rvT rfl, trivial⟩, ⟨p3, n3, c3, ph, nh, ch, by rw [List.length_eraseIdx_of_lt (by omega)]; omega, hH, rfl, rfl⟩, Sub.any⟩
      · skip
        try replace h0 := of_decide_eq_false h0
        refine LW.s rfl ?_
        refine LW.s rfl ?_
        refine LW.q rfl (Qt.pick rfl rfl) ?_
        refine LW.done ?_
        first | refine T.condF rfl ?_ | refine T.condPF rfl (by omega) ?_ | refine T.condBF rfl (by omega) ?_
        refine T.skip ?_
        refine T.seq ?_
        refine T.drawAll 8 (by kernel_rfl) (Nat.le_of_ble_eq_true rfl) (by kernel_rfl) ?_
        refine RW.q 0 rfl rfl (by kernel_rfl) (Sub.refl _) (Qt.fieldAddr (off := 3) (by kernel_rfl) rfl) ?_
        first | refine RW.q 1 rfl rfl (by kernel_rfl) (Sub.refl _) (Qt.load (by kernel_rfl) rfl rfl) ?_ | refine RW.q 1 rfl rfl (by kernel_rfl) (Sub.refl _) (Qt.load (by kernel_rfl) rfl (map_at _ _ _ (by omega))) ?_ | refine RW.q 1 rfl rfl (by kernel_rfl) (Sub.refl _) (Qt.load (by kernel_rfl) rfl (flat_cell0 _ _ _ (by intros; rfl) _ (by omega) (by rfl))) ?_ | refine RW.q 1 rfl rfl (by kernel_rfl) (Sub.refl _) (Qt.load (by kernel_rfl) rfl (flat_cell _ _ _ (by intros; rfl) _ _ (by omega) (by rfl))) ?_ | refine RW.q 1 rfl rfl (by kernel_rfl) (Sub.refl _) (Qt.load (by kernel_rfl) rfl (bytes_at _ _ (by omega))) ?_
        first | refine RW.q 2 rfl rfl (by kernel_rfl) (Sub.refl _) (Qt.loadAgg [_, _, _, _, _] (by kernel_rfl) rfl ⟨rfl, rfl, rfl, rfl, rfl, trivial⟩) ?_ | refine RW.q 2 rfl rfl (by kernel_rfl) (Sub.refl _) (Qt.loadAgg [_, _, _, _, _] (by kernel_rfl) rfl (by exact rdl_flat _ _ _ (by intros; rfl) _ (by omega))) ?_
        refine RW.q 3 rfl rfl (by kernel_rfl) (Sub.refl _) (Qt.move rfl) ?_
        refine RW.all [4, 7] (by kernel_rfl) (List.forall_mem_cons.2 ⟨?_, List.forall_mem_cons.2 ⟨?_, List.forall_mem_nil _⟩⟩)
        · skip
          refine RO.e rfl rfl (Ef.call (Mw.find B m (some ⟨gt, 0, none⟩) nt ct ph nh ch t hT hn) Try.func30 rfl rfl rfl ?_)
          rintro _ _ ⟨rfl, rfl⟩
          try simp only [List.cons_append, List.nil_append]
          rw [hfi]
          refine ⟨Sub.any, ?_⟩
          refine RW.q 5 rfl rfl (by kernel_rfl) (Sub.refl _) (Qt.index _ (e := 60) (sz := 3) (by kernel_rfl) rfl rfl rfl (by omega)) ?_
          refine RW.q 6 rfl rfl (by kernel_rfl) (Sub.refl _) (Qt.loadAgg [_, _, _] (by kernel_rfl) rfl (load_rt hx)) ?_
          refine RW.one 7 (by kernel_rfl) ?_
          refine RO.e rfl rfl (Ef.alloc [.int .i64 0, .int .i64 0, .slice none 0 0] (by unfold zeroB; kernel_rfl) ?_)
          intro g9
          refine ⟨Sub.any, ?_⟩
          refine RW.done (by rfl) ?_
          simp only [List.drop_succ_cons, List.drop_zero, List.drop_nil]
          refine LW.e0 rfl (Ef.store [_, _, _] (by kernel_rfl) rfl rfl rfl rfl (by simp) ?_)
          try simp only [splice, List.length_cons, List.length_nil, List.drop_succ_cons, List.cons_append, List.take_succ_cons, List.take_zero, List.drop_zero, List.nil_append, List.append_nil]
          refine LW.done ?_
          refine T.seq ?_
          refine T.region ?_
          first | refine LW.q rfl (Qt.loadAgg [_, _, _, _, _] (by kernel_rfl) rfl ⟨rfl, rfl, rfl, rfl, rfl, trivial⟩) ?_ | refine LW.q rfl (Qt.loadAgg [_, _, _, _, _] (by kernel_rfl) rfl (by exact rdl_flat _ _ _ (by intros; rfl) _ (by omega))) ?_
          refine LW.q rfl (Qt.move rfl) ?_
          refine LW.e rfl (Ef.call (Mw.without B m (some ⟨gt, 0, none⟩) nt ct ph nh ch t hT hn i hfi (by omega)) Try.func28 rfl rfl rfl ?_)
          rintro _ _ ⟨p3, c3, n3, hn3, rfl, rfl⟩
          try simp only [List.cons_append, List.nil_append]
          refine LW.q rfl (Qt.move rfl) ?_
          refine LW.q rfl (Qt.extr rfl rfl) ?_
          refine LW.q rfl (Qt.extr rfl rfl) ?_
          refine LW.e0 rfl (Ef.store [_, _, _, _, _] (by kernel_rfl) rfl rfl rfl rfl (by simp) ?_)
          try simp only [splice, List.length_cons, List.length_nil, List.drop_succ_cons, List.cons_append, List.take_succ_cons, List.take_zero, List.drop_zero, List.nil_append, List.append_nil]
          refine LW.done ?_
          refine T.seq ?_
          refine T.seq ?_
          refine T.region ?_
          refine LW.q rfl (Qt.move rfl) ?_
          refine LW.q rfl (Qt.eql rfl rfl) ?_
          refine LW.q rfl (Qt.move rfl) ?_
          have hks : x.q.ks.length = 0 := by
            rcases Nat.eq_zero_or_pos x.q.ks.length with h | h
            · exact h
            · exact absurd ⟨Classical.not_not.1 h0, List.length_pos_iff.1 h⟩ hz
          first | refine LW.gT (t := 40) rfl rfl ?_ | refine LW.gT (t := 40) rfl (decide_eq_true ((Classical.not_not.1 h0))) ?_ | refine LW.gT (t := 40) rfl ((Classical.not_not.1 h0)) ?_
          refine LW.q rfl (Qt.fieldAddr (off := 2) (by kernel_rfl) rfl) ?_
          first | refine LW.q rfl (Qt.load (by kernel_rfl) rfl rfl) ?_ | refine LW.q rfl (Qt.load (by kernel_rfl) rfl (map_at _ _ _ (by omega))) ?_ | refine LW.q rfl (Qt.load (by kernel_rfl) rfl (flat_cell0 _ _ _ (by intros; rfl) _ (by omega) (by rfl))) ?_ | refine LW.q rfl (Qt.load (by kernel_rfl) rfl (flat_cell _ _ _ (by intros; rfl) _ _ (by omega) (by rfl))) ?_ | refine LW.q rfl (Qt.load (by kernel_rfl) rfl (bytes_at _ _ (by omega))) ?_
          refine LW.q rfl (Qt.len (e := 9) (sz := 1) (by kernel_rfl) rfl) ?_
          refine LW.q rfl (Qt.gtr rfl rfl) ?_
          refine LW.q rfl (Qt.pick rfl rfl) ?_
          refine LW.done ?_
          first | refine T.condF rfl ?_ | refine T.condPF rfl (by omega) ?_ | refine T.condBF rfl (by omega) ?_
          refine T.skip ?_
          refine T.seq ?_
          refine T.region ?_
          first | refine LW.q rfl (Qt.loadAgg [_, _, _, _, _] (by kernel_rfl) rfl ⟨rfl, rfl, rfl, rfl, rfl, trivial⟩) ?_ | refine LW.q rfl (Qt.loadAgg [_, _, _, _, _] (by kernel_rfl) rfl (by exact rdl_flat _ _ _ (by intros; rfl) _ (by omega))) ?_
          refine LW.q rfl (Qt.move rfl) ?_
          refine LW.q rfl (Qt.move rfl) ?_
          refine LW.e0 rfl (Ef.store [_, _, _, _, _] (by kernel_rfl) rfl rfl rfl rfl (by simp) ?_)
          try simp only [splice, List.length_cons, List.length_nil, List.drop_succ_cons, List.cons_append, List.take_succ_cons, List.take_zero, List.drop_zero, List.nil_append, List.append_nil]
          refine LW.q rfl (Qt.assign rfl) ?_
          refine LW.q rfl (Qt.assign rfl) ?_
          refine LW.done ?_
          refine T.ret ?_
          exact ⟨.inl rfl, _, _, res [_, _, _] rfl ⟨rvA [_, _, _, _, _] (by kernel_rfl) rfl ⟨rfl, rfl, rfl, rfl, rfl, trivial⟩, rvT rfl, rvT rfl, trivial⟩, ⟨p3, n3, c3, ph, nh, ch, by rw [List.length_eraseIdx_of_lt (by omega)]; omega, hH, rfl, rfl⟩, Sub.any⟩
        · skip
          refine RO.e rfl rfl (Ef.alloc [.int .i64 0, .int .i64 0, .slice none 0 0] (by unfold zeroB; kernel_rfl) ?_)
          intro g9
          refine ⟨Sub.any, ?_⟩
          refine RW.one 4 (by kernel_rfl) ?_
          refine RO.e rfl rfl (Ef.call (Mw.find B m (some ⟨gt, 0, none⟩) nt ct ph nh ch t hT hn) Try.func30 rfl rfl rfl ?_)
          rintro _ _ ⟨rfl, rfl⟩
          try simp only [List.cons_append, List.nil_append]
          rw [hfi]
          refine ⟨Sub.any, ?_⟩
          refine RW.q 5 rfl rfl (by kernel_rfl) (Sub.refl _) (Qt.index _ (e := 60) (sz := 3) (by kernel_rfl) rfl rfl rfl (by omega)) ?_
          refine RW.q 6 rfl rfl (by kernel_rfl) (Sub.refl _) (Qt.loadAgg [_, _, _] (by kernel_rfl) rfl (load_rt hx)) ?_
          refine RW.done (by rfl) ?_
          simp only [List.drop_succ_cons, List.drop_zero, List.drop_nil]
          refine LW.e0 rfl (Ef.store [_, _, _] (by kernel_rfl) rfl rfl rfl rfl (by simp) ?_)
          try simp only [splice, List.length_cons, List.length_nil, List.drop_succ_cons, List.cons_append, List.take_succ_cons, List.take_zero, List.drop_zero, List.nil_append, List.append_nil]
          refine LW.done ?_
          refine T.seq ?_
          refine T.region ?_
          first | refine LW.q rfl (Qt.loadAgg [_, _, _, _, _] (by kernel_rfl) rfl ⟨rfl, rfl, rfl, rfl, rfl, trivial⟩) ?_ | refine LW.q rfl (Qt.loadAgg [_, _, _, _, _] (by kernel_rfl) rfl (by exact rdl_flat _ _ _ (by intros; rfl) _ (by omega))) ?_
          refine LW.q rfl (Qt.move rfl) ?_
          refine LW.e rfl (Ef.call (Mw.without B m (some ⟨gt, 0, none⟩) nt ct ph nh ch t hT hn i hfi (by omega)) Try.func28 rfl rfl rfl ?_)
          rintro _ _ ⟨p3, c3, n3, hn3, rfl, rfl⟩
          try simp only [List.cons_append, List.nil_append]
          refine LW.q rfl (Qt.move rfl) ?_
          refine LW.q rfl (Qt.extr rfl rfl) ?_
          refine LW.q rfl (Qt.extr rfl rfl) ?_
          refine LW.e0 rfl (Ef.store [_, _, _, _, _] (by kernel_rfl) rfl rfl rfl rfl (by simp) ?_)
          try simp only [splice, List.length_cons, List.length_nil, List.drop_succ_cons, List.cons_append, List.take_succ_cons, List.take_zero, List.drop_zero, List.nil_append, List.append_nil]
          refine LW.done ?_
          refine T.seq ?_
          refine T.seq ?_
          refine T.region ?_
          refine LW.q rfl (Qt.move rfl) ?_
          refine LW.q rfl (Qt.eql rfl rfl) ?_
          refine LW.q rfl (Qt.move rfl) ?_
          have hks : x.q.ks.length = 0 := by
            rcases Nat.eq_zero_or_pos x.q.ks.length with h | h
            · exact h
            · exact absurd ⟨Classical.not_not.1 h0, List.length_pos_iff.1 h⟩ hz
          first | refine LW.gT (t := 40) rfl rfl ?_ | refine LW.gT (t := 40) rfl (decide_eq_true ((Classical.not_not.1 h0))) ?_ | refine LW.gT (t := 40) rfl ((Classical.not_not.1 h0)) ?_
          refine LW.q rfl (Qt.fieldAddr (off := 2) (by kernel_rfl) rfl) ?_
          first | refine LW.q rfl (Qt.load (by kernel_rfl) rfl rfl) ?_ | refine LW.q rfl (Qt.load (by kernel_rfl) rfl (map_at _ _ _ (by omega))) ?_ | refine LW.q rfl (Qt.load (by kernel_rfl) rfl (flat_cell0 _ _ _ (by intros; rfl) _ (by omega) (by rfl))) ?_ | refine LW.q rfl (Qt.load (by kernel_rfl) rfl (flat_cell _ _ _ (by intros; rfl) _ _ (by omega) (by rfl))) ?_ | refine LW.q rfl (Qt.load (by kernel_rfl) rfl (bytes_at _ _ (by omega))) ?_
          refine LW.q rfl (Qt.len (e := 9) (sz := 1) (by kernel_rfl) rfl) ?_
          refine LW.q rfl (Qt.gtr rfl rfl) ?_
          refine LW.q rfl (Qt.pick rfl rfl) ?_
          refine LW.done ?_
          first | refine T.condF rfl ?_ | refine T.condPF rfl (by omega) ?_ | refine T.condBF rfl (by omega) ?_
          refine T.skip ?_
          refine T.seq ?_
          refine T.region ?_
          first | refine LW.q rfl (Qt.loadAgg [_, _, _, _, _] (by kernel_rfl) rfl ⟨rfl, rfl, rfl, rfl, rfl, trivial⟩) ?_ | refine LW.q rfl (Qt.loadAgg [_, _, _, _, _] (by kernel_rfl) rfl (by exact rdl_flat _ _ _ (by intros; rfl) _ (by omega))) ?_
          refine LW.q rfl (Qt.move rfl) ?_
          refine LW.q rfl (Qt.move rfl) ?_
          refine LW.e0 rfl (Ef.store [_, _, _, _, _] (by kernel_rfl) rfl rfl rfl rfl (by simp) ?_)
          try simp only [splice, List.length_cons, List.length_nil, List.drop_succ_cons, List.cons_append, List.take_succ_cons, List.take_zero, List.drop_zero, List.nil_append, List.append_nil]
          refine LW.q rfl (Qt.assign rfl) ?_
          refine LW.q rfl (Qt.assign rfl) ?_
          refine LW.done ?_
          refine T.ret ?_
          exact ⟨.inl rfl, _, _, res [_, _, _] rfl ⟨rvA [_, _, _, _, _] (by kernel_rfl) rfl ⟨rfl, rfl, rfl, rfl, rfl, trivial⟩, rvT rfl, rvT rfl, trivial⟩, ⟨p3, n3, c3, ph, nh, ch, by rw [List.length_eraseIdx_of_lt (by omega)]; omega, hH, rfl, rfl⟩, Sub.any⟩
end Go.Proofs.Ytgfbjabjkjbnlaa

/- The manager and the document's side by side: plain laws. Conditions: as each says. -/
set_option linter.unusedSimpArgs false
set_option linter.unusedVariables false
namespace Go.Proofs.Ytgfbjabjkjbnlaa
open Go.RowKit

/-- The same, as far as it is told. -/
structure Sim (m : Mg) (r : Rm) : Prop where
  now : m.now = r.now
  last : m.last = r.last
  begun : m.begun = r.begun
  ids : m.T.map (fun x => (x.id, x.snap)) = r.T.map fun x => (x.id, x.snap)
  ks : ∀ (i : Nat) (x : Tx) (y : Rt), m.T[i]? = some x → r.T[i]? = some y → ∀ k, k ∈ x.ks.map (·.1) ↔ k ∈ y.q.ks
  wr : ∀ (s : Int), 0 ≤ s → ∀ k, s < (lookL m.W k).getD 0 ↔ ∃ h ∈ r.H, s < h.stamp ∧ k ∈ h.q.ks
theorem Sim.len {m : Mg} {r : Rm} (h : Sim m r) : m.T.length = r.T.length := by
  have := congrArg List.length h.ids
  simpa using this
theorem Sim.at_ {m : Mg} {r : Rm} (h : Sim m r) {i : Nat} {x : Tx} (hx : m.T[i]? = some x) : ∃ y, r.T[i]? = some y ∧ y.id = x.id ∧ y.snap = x.snap := by
  have := congrArg (·[i]?) h.ids
  simp only [List.getElem?_map, hx, Option.map_some] at this
  cases hy : r.T[i]? with
  | none => rw [hy] at this; cases this
  | some y => rw [hy] at this; simp at this; exact ⟨y, rfl, this.1.symm, this.2.symm⟩
theorem Sim.find {m : Mg} {r : Rm} (h : Sim m r) (t : Int) : (findT m.T t = none ∧ findR r.T t = -1) ∨ ∃ i x y, findT m.T t = some (i, x) ∧ findR r.T t = (i : Nat) ∧ m.T[i]? = some x ∧ r.T[i]? = some y ∧ x.id = t ∧ y.id = t ∧ y.snap = x.snap := by
  have e1 : (m.T.map (·.id)) = r.T.map (·.id) := by
    have := congrArg (List.map Prod.fst) h.ids
    rw [List.map_map, List.map_map] at this
    exact this
  have e2 : m.T.findIdx? (fun x => decide (x.id = t)) = r.T.findIdx? fun x => decide (x.id = t) := by
    have a1 := List.findIdx?_map (f := fun x : Tx => x.id) (p := fun a => decide (a = t)) (l := m.T)
    have a2 := List.findIdx?_map (f := fun x : Rt => x.id) (p := fun a => decide (a = t)) (l := r.T)
    rw [e1, a2] at a1
    exact a1.symm
  cases hf : findT m.T t with
  | none =>
    left
    refine ⟨rfl, ?_⟩
    have hno := (findT_none hf).2
    unfold findR
    rw [← e2, List.findIdx?_eq_none_iff.2 fun x hx => by simpa using hno x hx]
  | some q =>
    obtain ⟨i, x⟩ := q
    right
    obtain ⟨h1, h2, _⟩ := findT_some hf
    obtain ⟨y, hy, hy1, hy2⟩ := h.at_ h1
    refine ⟨i, x, y, rfl, ?_, h1, hy, h2, by rw [hy1, h2], hy2⟩
    unfold findT at hf
    unfold findR
    rw [← e2]
    split at hf
    · cases hf
    · rename_i j hj
      rw [hj]
      cases hm : m.T[j]? with
      | none => rw [hm] at hf; cases hf
      | some z => rw [hm] at hf; simp at hf; rw [hf.1]
theorem sim_ks {m : Mg} {r : Rm} (h : Sim m r) {i : Nat} {x : Tx} {y : Rt} (hx : m.T[i]? = some x) (hy : r.T[i]? = some y) : x.ks = [] ↔ y.q.ks = [] := by
  have hk := h.ks i x y hx hy
  constructor
  · intro e
    rw [List.eq_nil_iff_forall_not_mem]
    intro k hm
    have := (hk k).2 hm
    rw [e] at this; simp at this
  · intro e
    cases hxk : x.ks with
    | nil => rfl
    | cons p l =>
      have := (hk p.1).1 (by rw [hxk]; simp)
      rw [e] at this; simp at this
theorem sim_clash {m : Mg} {r : Rm} (h : Sim m r) {i : Nat} {x : Tx} {y : Rt} (hx : m.T[i]? = some x) (hy : r.T[i]? = some y) {s : Int} (hs : 0 ≤ s) : clashB m.W s x.ks = clashH r.H s y.q.ks := by
  have hk := h.ks i x y hx hy
  rw [Bool.eq_iff_iff]
  unfold clashB clashH sharesB
  simp only [List.any_eq_true, decide_eq_true_eq, Bool.and_eq_true]
  constructor
  · rintro ⟨p, h1, h2⟩
    obtain ⟨g, g1, g2, g3⟩ := (h.wr s hs p.1).1 h2
    exact ⟨g, g1, g2, p.1, g3, p.1, (hk p.1).1 (List.mem_map_of_mem h1), rfl⟩
  · rintro ⟨g, g1, g2, k, g3, k', g4, rfl⟩
    obtain ⟨p, h1, rfl⟩ := List.mem_map.1 ((hk k).2 g4)
    exact ⟨p, h1, (h.wr s hs p.1).2 ⟨g, g1, g2, g3⟩⟩
theorem sim_check {m : Mg} {r : Rm} (h : Sim m r) (hI : MInv m) (t : Int) : checkM m t = rCheck r t := by
  rcases h.find t with ⟨h1, h2⟩ | ⟨i, x, y, h1, h2, h3, h4, h5, h6, h7⟩
  · rw [rCheck_no (by omega)]; unfold checkM; rw [h1]
  · rw [rCheck_at h2 h4]
    unfold checkM
    rw [h1]
    dsimp only
    have hs := hI.sn x (List.mem_of_getElem? h3)
    have e1 := sim_ks h h3 h4
    have e2 := sim_clash h h3 h4 hs.1
    rw [h7, ← h.now, ← h.last, ← e2]
    by_cases c1 : x.ks = []
    · rw [if_pos c1, if_pos (e1.1 c1)]
    · rw [if_neg c1, if_neg (fun k => c1 (e1.2 k))]
      by_cases c2 : clashB m.W x.snap x.ks = true
      · rw [if_pos c2, if_pos c2]
      · rw [if_neg c2, if_neg c2]
        by_cases c3 : 1099511627775 < max m.now (m.last + 1)
        · rw [if_pos c3, if_pos (by omega)]
        · rw [if_neg c3, if_neg (by omega)]
theorem Sim.begin {m m' : Mg} {r : Rm} {x : Tx} (h : Sim m r) (hb : Begun m m' x) : Sim m' { r with begun := r.begun + 1, T := r.T ++ [⟨r.begun + 1, r.last, ⟨none, 0, []⟩⟩] } := by
  refine ⟨hb.now.trans h.now, hb.last.trans h.last, by rw [hb.begun, h.begun], ?_, fun i a b ha hb' k => ?_, fun s hs k => by rw [hb.W]; exact h.wr s hs k⟩
  · rw [hb.T, List.map_append, List.map_append, h.ids]
    simp [hb.id, hb.snap, h.begun, h.last]
  · rw [hb.T] at ha
    dsimp only at hb'
    rw [List.getElem?_append] at ha hb'
    rw [h.len] at ha
    split at ha
    · rename_i hlt
      rw [if_pos hlt] at hb'
      exact h.ks i a b ha hb' k
    · rename_i hlt
      rw [if_neg hlt] at hb'
      cases hi : i - r.T.length with
      | zero =>
        rw [hi] at ha hb'
        simp at ha hb'
        subst ha; subst hb'
        rw [hb.ks]
        simp
      | succ j => rw [hi] at ha; simp at ha
theorem mem_putL {L : List (Str × Int)} {k k' : Str} {v : Int} : k' ∈ (putL L k v).map (·.1) ↔ k' = k ∨ k' ∈ L.map (·.1) := by
  induction L with
  | nil => simp [putL]
  | cons p L ih =>
    unfold putL
    split
    · rename_i e
      simp only [List.map_cons, List.mem_cons, e]
      constructor
      · rintro (a | a)
        · exact .inl a
        · exact .inr (.inr a)
      · rintro (a | a | a)
        · exact .inl a
        · exact .inl a
        · exact .inr a
    · simp only [List.map_cons, List.mem_cons, ih]
      constructor
      · rintro (a | a | a)
        · exact .inr (.inl a)
        · exact .inl a
        · exact .inr (.inr a)
      · rintro (a | a | a)
        · exact .inr (.inl a)
        · exact .inl a
        · exact .inr (.inr a)
theorem mem_bumps {k : Str} : ∀ {ks : List Str} {L : List (Str × Int)}, k ∈ (bumps L ks).map (·.1) ↔ k ∈ L.map (·.1) ∨ k ∈ ks
  | [], L => by simp [bumps]
  | a :: ks, L => by
    have := mem_bumps (k := k) (ks := ks) (L := bump L a)
    show k ∈ (bumps (bump L a) ks).map (·.1) ↔ _
    rw [this, mem_putL, List.mem_cons]
    constructor
    · rintro ((h | h) | h)
      · exact .inr (.inl h)
      · exact .inl h
      · exact .inr (.inr h)
    · rintro (h | h | h)
      · exact .inl (.inr h)
      · exact .inl (.inl h)
      · exact .inr h
theorem Sim.write {m : Mg} {r r' : Rm} {Q Q' : List Kq} {t : Int} {ks : List Str} (h : Sim m r) (hw : rWrite r Q t ks r' Q') : Sim (writeM m t ks).1 r' ∧ (writeM m t ks).2 = if findR r.T t < 0 then 70 else 0 := by
  unfold rWrite at hw
  rcases h.find t with ⟨h1, h2⟩ | ⟨i, x, y, h1, h2, h3, h4, h5, h6, h7⟩
  · rw [if_pos (by omega)] at hw
    rw [writeM_no h1, if_pos (by omega), hw.1]
    exact ⟨h, rfl⟩
  · rw [if_neg (by omega)] at hw
    obtain ⟨i', y', q, e1, e2, e3, e4, e5, e6⟩ := hw
    obtain rfl : i = i' := by omega
    rw [h4] at e2; cases e2
    rw [writeM_at h1, if_neg (by omega), e5]
    have hil := (List.getElem?_eq_some_iff.1 h3).1
    have hil2 := (List.getElem?_eq_some_iff.1 h4).1
    refine ⟨⟨h.now, h.last, h.begun, ?_, fun j a b ha hb k => ?_, h.wr⟩, rfl⟩
    · dsimp only
      have a1 : (m.T.set i { x with ks := bumps x.ks ks }).map (fun x => (x.id, x.snap)) = m.T.map fun x => (x.id, x.snap) := by
        apply List.ext_getElem?
        intro j
        rw [List.getElem?_map, List.getElem?_map, List.getElem?_set]
        split
        · rename_i e; subst e; rw [h3]; rfl
        · rfl
      have a2 : (r.T.set i { y with q := q }).map (fun x => (x.id, x.snap)) = r.T.map fun x => (x.id, x.snap) := by
        apply List.ext_getElem?
        intro j
        rw [List.getElem?_map, List.getElem?_map, List.getElem?_set]
        split
        · rename_i e; subst e; rw [h4]; rfl
        · rfl
      rw [a1, a2]; exact h.ids
    · dsimp only at ha hb
      by_cases e : i = j
      · subst e
        rw [List.getElem?_set_self hil] at ha
        rw [List.getElem?_set_self hil2] at hb
        cases ha; cases hb
        dsimp only
        rw [mem_bumps, e3, List.mem_append, h.ks i x y h3 h4 k]
      · rw [List.getElem?_set_ne e] at ha hb
        exact h.ks j a b ha hb k
theorem drop_erase {T : List Tx} {t : Int} {i : Nat} {x : Tx} (hi : T[i]? = some x) (hx : x.id = t) (hs : (T.map (·.id)).Pairwise (· < ·)) : dropT T t = T.eraseIdx i := by
  induction T generalizing i with
  | nil => simp at hi
  | cons a T ih =>
    rw [List.map_cons, List.pairwise_cons] at hs
    cases i with
    | zero =>
      simp at hi; subst hi
      unfold dropT
      rw [List.filter_cons_of_neg (by simp [hx])]
      simp only [List.eraseIdx_cons_zero]
      rw [List.filter_eq_self]
      intro b hb
      have := hs.1 b.id (List.mem_map_of_mem hb)
      simp
      omega
    | succ i =>
      simp at hi
      have hne : a.id ≠ t := by
        have := hs.1 x.id (List.mem_map_of_mem (List.mem_of_getElem? hi))
        omega
      have := ih hi hs.2
      unfold dropT at this ⊢
      rw [List.filter_cons_of_pos (by simpa using hne), this]
      rfl
theorem erase_get {α : Type} (l : List α) (i j : Nat) : (l.eraseIdx i)[j]? = if j < i then l[j]? else l[j + 1]? := List.getElem?_eraseIdx ..
theorem Sim.drop {m m' : Mg} {r : Rm} {t : Int} {i : Nat} {x : Tx} (h : Sim m r) (hI : MInv m) (hf : findT m.T t = some (i, x)) (hT : m'.T = dropT m.T t) : m'.T.map (fun x => (x.id, x.snap)) = (r.T.eraseIdx i).map (fun x => (x.id, x.snap)) ∧ ∀ (j : Nat) (a : Tx) (b : Rt), m'.T[j]? = some a → (r.T.eraseIdx i)[j]? = some b → ∀ k, k ∈ a.ks.map (·.1) ↔ k ∈ b.q.ks := by
  obtain ⟨h1, h2, _⟩ := findT_some hf
  rw [drop_erase h1 h2 hI.ids] at hT
  rw [hT]
  refine ⟨by rw [map_erase, map_erase, h.ids], fun j a b ha hb k => ?_⟩
  rw [erase_get] at ha hb
  split at ha
  · rename_i hlt; rw [if_pos hlt] at hb; exact h.ks j a b ha hb k
  · rename_i hlt; rw [if_neg hlt] at hb; exact h.ks (j + 1) a b ha hb k
theorem Sim.abort {m : Mg} {r : Rm} {t : Int} (h : Sim m r) (hI : MInv m) : (findR r.T t < 0 ∧ abortM m t = (m, 70)) ∨ ∃ i, findR r.T t = (i : Nat) ∧ i < r.T.length ∧ (abortM m t).2 = 0 ∧ Sim (abortM m t).1 { r with T := r.T.eraseIdx i } := by
  rcases h.find t with ⟨h1, h2⟩ | ⟨i, x, y, h1, h2, h3, h4, h5, h6, h7⟩
  · left; exact ⟨by omega, by unfold abortM; rw [h1]⟩
  · right
    obtain ⟨d1, d2⟩ := h.drop (m' := { m with T := dropT m.T t }) hI h1 rfl
    have he : abortM m t = ({ m with T := dropT m.T t }, 0) := by unfold abortM; rw [h1]
    rw [he]
    exact ⟨i, h2, (List.getElem?_eq_some_iff.1 h4).1, rfl, ⟨h.now, h.last, h.begun, d1, d2, h.wr⟩⟩
theorem Sim.commit {m m' : Mg} {r : Rm} {t : Int} (h : Sim m r) (hI : MInv m) (hc : commitP m t m') : Sim m' (rCommit r t).1 ∧ (rCommit r t).2 = (if (checkM m t).2 ≠ 0 ∧ (checkM m t).2 ≠ 120 then 0 else (checkM m t).1, (checkM m t).2) := by
  have hck := sim_check h hI t
  obtain ⟨c1, c2, c3⟩ := hc
  unfold rCommit
  rw [← hck]
  by_cases hbad : (checkM m t).2 ≠ 0 ∧ (checkM m t).2 ≠ 120
  · rw [if_pos hbad, if_pos hbad, c3 hbad.1 hbad.2]
    exact ⟨h, rfl⟩
  · rw [if_neg hbad, if_neg hbad]
    rcases h.find t with ⟨h1, h2⟩ | ⟨i, x, y, h1, h2, h3, h4, h5, h6, h7⟩
    · exfalso
      have : checkM m t = (0, 70) := by unfold checkM; rw [h1]
      rw [this] at hbad
      exact hbad ⟨by decide, by decide⟩
    · rw [h2, Int.toNat_natCast, h4]
      dsimp only
      have hks := sim_ks h h3 h4
      by_cases h0 : (checkM m t).2 = 0
      · obtain ⟨i', x', hf', c⟩ := c2 h0
        rw [h1] at hf'; cases hf'
        obtain ⟨i'', x'', hf'', hst⟩ := check_stamp hI h0
        rw [h1] at hf''; cases hf''
        obtain ⟨d1, d2⟩ := h.drop hI h1 c.T
        by_cases hke : y.q.ks = []
        · rw [if_neg (fun k => k.2 hke)]
          have hxe := hks.2 hke
          refine ⟨⟨c.now.trans h.now, by rw [c.last, if_pos hxe]; exact h.last, c.begun.trans h.begun, d1, d2, fun s hs k => ?_⟩, rfl⟩
          rw [c.W k, if_neg (by rw [hxe]; simp)]
          exact h.wr s hs k
        · rw [if_pos ⟨h0, hke⟩]
          have hxe : x.ks ≠ [] := fun e => hke (hks.1 e)
          obtain ⟨_, hs1, hs2, hs3⟩ := hst.resolve_left (fun k => hxe k.1)
          refine ⟨⟨c.now.trans h.now, by rw [c.last, if_neg hxe], c.begun.trans h.begun, d1, d2, fun s hs k => ?_⟩, by rw [h0]⟩
          dsimp only
          have hle := hI.wr k
          rw [c.W k]
          have hmem := h.ks i x y h3 h4 k
          by_cases hk : k ∈ x.ks.map (·.1)
          · rw [if_pos hk]
            constructor
            · intro hlt
              exact ⟨_, List.mem_append_right _ (List.mem_singleton.2 rfl), hlt, hmem.1 hk⟩
            · rintro ⟨g, g1, g2, g3⟩
              rcases List.mem_append.1 g1 with g1 | g1
              · have := (h.wr s hs k).2 ⟨g, g1, g2, g3⟩
                rw [hs1]; omega
              · simp at g1; subst g1; exact g2
          · rw [if_neg hk, h.wr s hs k]
            constructor
            · rintro ⟨g, g1, g2⟩; exact ⟨g, List.mem_append_left _ g1, g2⟩
            · rintro ⟨g, g1, g2, g3⟩
              rcases List.mem_append.1 g1 with g1 | g1
              · exact ⟨g, g1, g2, g3⟩
              · simp at g1; subst g1; exact absurd (hmem.2 g3) hk
      · rw [if_neg (fun k => h0 k.1)]
        have h120 : (checkM m t).2 = 120 := Classical.byContradiction fun k => hbad ⟨h0, k⟩
        rw [c1 h120]
        obtain ⟨d1, d2⟩ := h.drop (m' := { m with T := dropT m.T t }) hI h1 rfl
        exact ⟨⟨h.now, h.last, h.begun, d1, d2, h.wr⟩, rfl⟩
end Go.Proofs.Ytgfbjabjkjbnlaa
