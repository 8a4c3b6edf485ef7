/- The statement WalPlays. Conditions: that what is handed in can be read; sizes. -/
import Derived.Test.YtjjhbpjbngdlnaaDoorRlE
import Derived.Test.YtjjhbpjbngdlnaaDoorWlRd
set_option linter.unusedSimpArgs false
set_option linter.unusedVariables false
namespace Go.Proofs.YtjjhbpjbngdlnaaDoor
open Go.RowKit

theorem DD.eta_nil {D : DD} (h : D.pend = []) : D = ⟨D.secs, []⟩ := by cases D; simp_all
theorem addW_fits {W W2 : Wl} {d : List UInt8} {x e : Int} (h : addW W d = (W2, x, e)) (hst : W.st.length ≤ W.count * 256) (hd : W.dur ≤ W.st.length) : W2.first = W.first ∧ W2.count = W.count ∧ W2.st.length ≤ W.count * 256 ∧ W2.dur ≤ W2.st.length ∧ (e = 0 → x = W2.st.length) ∧ (e ≠ 0 → x = 0) := by
  unfold addW at h
  split at h
  · injection h with h1 h2; injection h2 with h2 h3; subst h1; exact ⟨rfl, rfl, hst, hd, fun h => by omega, fun _ => h2.symm⟩
  · split at h
    · injection h with h1 h2; injection h2 with h2 h3; subst h1; exact ⟨rfl, rfl, hst, hd, fun h => by omega, fun _ => h2.symm⟩
    · split at h
      · injection h with h1 h2; injection h2 with h2 h3; subst h1; exact ⟨rfl, rfl, hst, hd, fun h => by omega, fun _ => h2.symm⟩
      · injection h with h1 h2; injection h2 with h2 h3; subst h1
        have : (W.st ++ be (UInt64.ofInt d.length) 4 ++ be (sealW W.sum W.st.length d).toUInt64 4 ++ d).length = W.st.length + 8 + d.length := by simp [length_be]; omega
        refine ⟨rfl, rfl, ?_, ?_, fun _ => ?_, fun h => absurd h3.symm h⟩
        · dsimp only; omega
        · dsimp only; omega
        · rw [← h2]; dsimp only; omega
/-- A slice of calls that lies in memory that is only read. -/
def RoLL (B : Base) (v : Value) (l : List OpL) : Prop := ∃ a cap, v = .slice a l.length cap ∧ (l = [] ∨ ∃ b o C, a = some ⟨b, o, none⟩ ∧ ROc B b C ∧
  ∀ i (hi : i < l.length), ∃ da dc ka kc, rdl C (o + i * 6) [.int .i64 l[i].kind, .slice da l[i].data.length dc, .int .i64 l[i].mark, .slice ka l[i].keep.length kc, .int .i64 l[i].t0, .int .i64 l[i].t1] ∧ RoS B (.slice da l[i].data.length dc) (bytesV l[i].data) ∧ RoS B (.slice ka l[i].keep.length kc) (boolsV l[i].keep))

set_option maxHeartbeats 1000000 in
set_option maxRecDepth 100000 in
theorem Rl.plays_no (B : Base) (first count : Int) (sv : Value) (hf : -(2 ^ 63) ≤ first ∧ first < 2 ^ 63) (hcn : -(2 ^ 63) ≤ count ∧ count < 2 ^ 63) (h : first < 0 ∨ count < 1 ∨ 6 < count ∨ 6 - count < first) : Fn Tryd.prog B 8 #[.int .i64 first, .int .i64 count, sv] [] (fun v l => v = .bool true ∧ l = []) := by
  refine Fn.enter3 272 Tryd.func8 rfl rfl (Nat.le_of_ble_eq_true rfl) (fun F => ?_)
  try simp only [List.cons_append, List.nil_append]
  refine T.seq ?_
  refine T.region ?_
  refine LW.q rfl (Qt.assign rfl) ?_
  refine LW.done ?_
  refine T.seq ?_
  refine T.seq ?_
  refine T.region ?_
  refine LW.e rfl (Ef.call (Wl.awake B) Tryd.func23 rfl rfl rfl ?_)
  rintro _ _ ⟨rfl, rfl⟩
  try simp only [List.cons_append, List.nil_append]
  first | refine LW.q rfl (Qt.notP rfl) ?_ | refine LW.q rfl (Qt.notB rfl) ?_
  refine LW.done ?_
  first | refine T.condF rfl ?_ | refine T.condPF rfl (by omega) ?_ | refine T.condBF rfl (by omega) ?_
  refine T.skip ?_
  refine T.seq ?_
  refine T.region ?_
  refine LW.e rfl (Ef.call (Dk.newF B 6 6 rfl (by omega) (by omega)) Tryd.func24 rfl rfl rfl ?_)
  rintro _ _ ⟨bd, rfl, rfl⟩
  try simp only [List.cons_append, List.nil_append]
  refine LW.q rfl (Qt.move rfl) ?_
  refine LW.q rfl (Qt.extract rfl rfl) ?_
  refine LW.q rfl (Qt.extract rfl rfl) ?_
  refine LW.q rfl (Qt.assign rfl) ?_
  refine LW.q rfl (Qt.assign rfl) ?_
  refine LW.done ?_
  refine T.seq ?_
  refine T.region ?_
  refine LW.e rfl (Ef.call (Rf.new B 6 (by omega) (by omega)) Tryd.func28 rfl rfl rfl ?_)
  rintro _ _ ⟨p, a, q, c, rfl, rfl⟩
  try simp only [List.cons_append, List.nil_append]
  refine LW.q rfl (Qt.move rfl) ?_
  refine LW.q rfl (Qt.extract rfl rfl) ?_
  refine LW.q rfl (Qt.extract rfl rfl) ?_
  refine LW.e rfl (Ef.alloc [.slice none 0 0, .slice none 0 0] (by unfold zeroB; kernel_rfl) ?_)
  intro g9
  refine LW.e0 rfl (Ef.store [_, _] (by kernel_rfl) rfl rfl rfl rfl (by simp) ?_)
  try simp only [splice, List.length_cons, List.length_nil, List.drop_succ_cons, List.cons_append, List.take_succ_cons, List.take_zero, List.drop_zero, List.nil_append, List.append_nil]
  refine LW.q rfl (Qt.assign rfl) ?_
  refine LW.done ?_
  refine T.seq ?_
  refine T.seq ?_
  refine T.region ?_
  refine LW.q rfl (Qt.move rfl) ?_
  first | refine LW.q rfl (Qt.eqlNil (by kernel_rfl) rfl rfl) ?_ | refine LW.q rfl (Qt.eqlNN (by kernel_rfl) rfl rfl) ?_
  refine LW.done ?_
  first | refine T.condF rfl ?_ | refine T.condPF rfl (by omega) ?_ | refine T.condBF rfl (by omega) ?_
  refine T.skip ?_
  refine T.seq ?_
  refine T.region ?_
  refine LW.q rfl (Qt.move rfl) ?_
  refine LW.q rfl (Qt.move rfl) ?_
  refine LW.q rfl (Qt.move rfl) ?_
  refine LW.e rfl (Ef.call (Wl.open_no B bd ⟨List.replicate 6 zs, []⟩ first count (by simp) hf hcn (by simpa using h)) Tryd.func25 rfl rfl rfl ?_)
  rintro _ _ ⟨rfl, rfl⟩
  try simp only [List.cons_append, List.nil_append]
  refine LW.q rfl (Qt.move rfl) ?_
  refine LW.q rfl (Qt.extract rfl rfl) ?_
  refine LW.q rfl (Qt.extract rfl rfl) ?_
  refine LW.q rfl (Qt.extract rfl rfl) ?_
  refine LW.q rfl (Qt.assign rfl) ?_
  refine LW.q rfl (Qt.assign rfl) ?_
  refine LW.q rfl (Qt.assign rfl) ?_
  refine LW.done ?_
  refine T.seq ?_
  refine T.region ?_
  first | refine LW.q rfl (Qt.loadAgg [_, _] (by kernel_rfl) rfl ⟨rfl, rfl, trivial⟩) ?_ | refine LW.q rfl (Qt.loadAgg [_, _] (by kernel_rfl) rfl (by exact rdl_flat _ _ _ (by intros; rfl) _ (by omega))) ?_
  refine LW.q rfl (Qt.move rfl) ?_
  refine LW.q rfl (Qt.move rfl) ?_
  refine LW.e rfl (Ef.call (Rl.open_no B p q a c 6 0 first count (by omega) hf hcn (by omega)) Tryd.func29 rfl rfl rfl ?_)
  rintro _ _ ⟨rfl, rfl⟩
  try simp only [List.cons_append, List.nil_append]
  refine LW.q rfl (Qt.move rfl) ?_
  refine LW.q rfl (Qt.extract rfl rfl) ?_
  refine LW.q rfl (Qt.extract rfl rfl) ?_
  refine LW.q rfl (Qt.extract rfl rfl) ?_
  refine LW.q rfl (Qt.extract rfl rfl) ?_
  refine LW.e rfl (Ef.alloc [.string .empty, .int .u32 0, .int .i64 0, .int .i64 0, .int .i64 0] (by unfold zeroB; kernel_rfl) ?_)
  intro g14
  refine LW.e0 rfl (Ef.store [_, _] (by kernel_rfl) rfl rfl rfl rfl (by simp) ?_)
  try simp only [splice, List.length_cons, List.length_nil, List.drop_succ_cons, List.cons_append, List.take_succ_cons, List.take_zero, List.drop_zero, List.nil_append, List.append_nil]
  refine LW.e0 rfl (Ef.store [_, _, _, _, _] (by kernel_rfl) rfl rfl rfl rfl (by simp) ?_)
  try simp only [splice, List.length_cons, List.length_nil, List.drop_succ_cons, List.cons_append, List.take_succ_cons, List.take_zero, List.drop_zero, List.nil_append, List.append_nil]
  refine LW.q rfl (Qt.assign rfl) ?_
  refine LW.q rfl (Qt.assign rfl) ?_
  refine LW.done ?_
  refine T.seq ?_
  refine T.seq ?_
  refine T.region ?_
  refine LW.q rfl (Qt.move rfl) ?_
  refine LW.q rfl (Qt.move rfl) ?_
  refine LW.q rfl (Qt.neq rfl rfl) ?_
  refine LW.q rfl (Qt.move rfl) ?_
  first | refine LW.gF (t := 55) rfl rfl ?_ | refine LW.gF (t := 55) rfl (decide_eq_false (by omega)) ?_ | refine LW.gF (t := 55) rfl (by omega) ?_
  refine LW.q rfl (Qt.move rfl) ?_
  first | refine LW.q rfl (Qt.eqlNil (by kernel_rfl) rfl rfl) ?_ | refine LW.q rfl (Qt.eqlNN (by kernel_rfl) rfl rfl) ?_
  refine LW.q rfl (Qt.move rfl) ?_
  refine LW.q rfl (Qt.neq rfl rfl) ?_
  refine LW.q rfl (Qt.neqB (by kernel_rfl) rfl rfl) ?_
  refine LW.q rfl (Qt.pick rfl rfl) ?_
  refine LW.q rfl (Qt.move rfl) ?_
  first | refine LW.gF (t := 62) rfl rfl ?_ | refine LW.gF (t := 62) rfl (decide_eq_false (by omega)) ?_ | refine LW.gF (t := 62) rfl (by omega) ?_
  refine LW.q rfl (Qt.move rfl) ?_
  refine LW.q rfl (Qt.move rfl) ?_
  refine LW.e rfl (Ef.call (Rl.records_nil B) Tryd.func30 rfl rfl rfl ?_)
  rintro _ _ ⟨rfl, rfl⟩
  try simp only [List.cons_append, List.nil_append]
  first | refine LW.q rfl (Qt.notP rfl) ?_ | refine LW.q rfl (Qt.notB rfl) ?_
  refine LW.q rfl (Qt.pick rfl rfl) ?_
  refine LW.done ?_
  first | refine T.condF rfl ?_ | refine T.condPF rfl (by omega) ?_ | refine T.condBF rfl (by omega) ?_
  refine T.skip ?_
  refine T.seq ?_
  refine T.seq ?_
  refine T.region ?_
  refine LW.q rfl (Qt.move rfl) ?_
  first | refine LW.q rfl (Qt.eqlNil (by kernel_rfl) rfl rfl) ?_ | refine LW.q rfl (Qt.eqlNN (by kernel_rfl) rfl rfl) ?_
  refine LW.done ?_
  first | refine T.condT rfl ?_ | refine T.condPT rfl (by omega) ?_ | refine T.condBT rfl (by omega) ?_
  refine T.seq ?_
  refine T.region ?_
  refine LW.q rfl (Qt.assign rfl) ?_
  refine LW.done ?_
  refine T.ret ?_
  exact ⟨.inl rfl, _, _, res [_] rfl ⟨rvT rfl, trivial⟩, ⟨rfl, rfl⟩, Sub.any⟩

set_option maxHeartbeats 16000000 in
set_option maxRecDepth 100000 in
theorem Rl.plays (B : Base) (first count : Nat) (i j : Int) (hi : i = first) (hj : j = count) (h1 : 1 ≤ count) (hfc : first + count ≤ 6) (sv : Value) (sc : List OpL) (hsv : RoLL B sv sc) (hsl0 : sc.length ≤ 1048576) (hdl : ∀ x ∈ sc, x.data.length ≤ 1048576) :
    Fn Tryd.prog B 8 #[.int .i64 i, .int .i64 j, sv] [] (fun v l => v = .bool true ∧ l = []) := by
  subst hi; subst hj
  obtain ⟨sa, scap, rfl, hsc⟩ := hsv
  refine Fn.enter3 272 Tryd.func8 rfl rfl (Nat.le_of_ble_eq_true rfl) (fun F => ?_)
  try simp only [List.cons_append, List.nil_append]
  refine T.seq ?_
  refine T.region ?_
  refine LW.q rfl (Qt.assign rfl) ?_
  refine LW.done ?_
  refine T.seq ?_
  refine T.seq ?_
  refine T.region ?_
  refine LW.e rfl (Ef.call (Wl.awake B) Tryd.func23 rfl rfl rfl ?_)
  rintro _ _ ⟨rfl, rfl⟩
  try simp only [List.cons_append, List.nil_append]
  first | refine LW.q rfl (Qt.notP rfl) ?_ | refine LW.q rfl (Qt.notB rfl) ?_
  refine LW.done ?_
  first | refine T.condF rfl ?_ | refine T.condPF rfl (by omega) ?_ | refine T.condBF rfl (by omega) ?_
  refine T.skip ?_
  refine T.seq ?_
  refine T.region ?_
  refine LW.e rfl (Ef.call (Dk.newF B 6 6 rfl (by omega) (by omega)) Tryd.func24 rfl rfl rfl ?_)
  rintro _ _ ⟨bd, rfl, rfl⟩
  try simp only [List.cons_append, List.nil_append]
  refine LW.q rfl (Qt.move rfl) ?_
  refine LW.q rfl (Qt.extract rfl rfl) ?_
  refine LW.q rfl (Qt.extract rfl rfl) ?_
  refine LW.q rfl (Qt.assign rfl) ?_
  refine LW.q rfl (Qt.assign rfl) ?_
  refine LW.done ?_
  refine T.seq ?_
  refine T.region ?_
  refine LW.e rfl (Ef.call (Rf.new B 6 (by omega) (by omega)) Tryd.func28 rfl rfl rfl ?_)
  rintro _ _ ⟨p0, a0, q0, c0, rfl, rfl⟩
  try simp only [List.cons_append, List.nil_append]
  refine LW.q rfl (Qt.move rfl) ?_
  refine LW.q rfl (Qt.extract rfl rfl) ?_
  refine LW.q rfl (Qt.extract rfl rfl) ?_
  refine LW.e rfl (Ef.alloc [.slice none 0 0, .slice none 0 0] (by unfold zeroB; kernel_rfl) ?_)
  intro g9
  refine LW.e0 rfl (Ef.store [_, _] (by kernel_rfl) rfl rfl rfl rfl (by simp) ?_)
  try simp only [splice, List.length_cons, List.length_nil, List.drop_succ_cons, List.cons_append, List.take_succ_cons, List.take_zero, List.drop_zero, List.nil_append, List.append_nil]
  refine LW.q rfl (Qt.assign rfl) ?_
  refine LW.done ?_
  refine T.seq ?_
  refine T.seq ?_
  refine T.region ?_
  refine LW.q rfl (Qt.move rfl) ?_
  first | refine LW.q rfl (Qt.eqlNil (by kernel_rfl) rfl rfl) ?_ | refine LW.q rfl (Qt.eqlNN (by kernel_rfl) rfl rfl) ?_
  refine LW.done ?_
  first | refine T.condF rfl ?_ | refine T.condPF rfl (by omega) ?_ | refine T.condBF rfl (by omega) ?_
  have o0 := DD.new_ok 6 (by omega) (by omega)
  obtain ⟨S0, hS0⟩ : ∃ S0, List.replicate 6 zs = S0 := ⟨_, rfl⟩
  have l0 : S0.length = 6 := by rw [← hS0]; simp
  rw [hS0] at o0
  rw [hS0]
  refine T.skip ?_
  refine T.seq ?_
  refine T.region ?_
  refine LW.q rfl (Qt.move rfl) ?_
  refine LW.q rfl (Qt.move rfl) ?_
  refine LW.q rfl (Qt.move rfl) ?_
  refine LW.e rfl (Ef.call (Wl.openE B bd ⟨S0, []⟩ first count (by omega) (by show first + count ≤ S0.length; omega) (by simp) o0) Tryd.func25 rfl rfl rfl ?_)
  rintro _ _ ⟨gl2, q3, cq3, R3, kk, ss, u1, u2, u3, rfl, rfl⟩
  try simp only [List.cons_append, List.nil_append]
  obtain ⟨al, hal⟩ : ∃ al, allD ⟨S0, []⟩ first count = al := ⟨_, rfl⟩
  have hall : al.length = count * 256 := by rw [← hal]; exact allD_length o0 count (by show first + count ≤ S0.length; omega)
  rw [hal] at u1 u3
  rw [hal]
  obtain ⟨W6, hW6⟩ : ∃ W6, (⟨first, count, al.take kk, ss, kk⟩ : Wl) = W6 := ⟨_, rfl⟩
  have y1 := wipe_ok (W := W6) (al := al) (k := count - kk / 256) (n := kk / 256) o0 (by rw [← hW6]; show first + _ ≤ S0.length; omega)
  have y2 : (wipeD W6 al ⟨S0, []⟩ (kk / 256) (count - kk / 256)).sync.Ok := y1.1.sy
  have y3 : (wipeD W6 al ⟨S0, []⟩ (kk / 256) (count - kk / 256)).sync.secs.length = 6 := by rw [DD.sync_len y1.1, y1.2]; exact l0
  have z1 : W6.first = first := by rw [← hW6]
  have z2 : W6.count = count := by rw [← hW6]
  have z3 : W6.st.length = kk := by rw [← hW6]; exact u3
  have z4 : W6.dur = kk := by rw [← hW6]
  obtain ⟨S6, hS6⟩ : ∃ S6, (wipeD W6 al ⟨S0, []⟩ (kk / 256) (count - kk / 256)).sync = ⟨S6, []⟩ := ⟨_, rfl⟩
  rw [hS6] at y2 y3
  rw [hW6, hS6]
  have hRn : R3.length < 2 ^ 40 := by have := congrArg (fun x => x.2.2.length) u1; obtain ⟨ds, _, k2, _, k4⟩ := scan_back (count * 256 + 1) 0 0 al (Nat.zero_le _); rw [k2] at this; simp only [length_logR, List.length_map] at this; have h5 := length_logB_le 0 0 ds; omega
  refine LW.q rfl (Qt.move rfl) ?_
  refine LW.q rfl (Qt.extract rfl rfl) ?_
  refine LW.q rfl (Qt.extract rfl rfl) ?_
  refine LW.q rfl (Qt.extract rfl rfl) ?_
  refine LW.q rfl (Qt.assign rfl) ?_
  refine LW.q rfl (Qt.assign rfl) ?_
  refine LW.q rfl (Qt.assign rfl) ?_
  refine LW.done ?_
  refine T.seq ?_
  refine T.region ?_
  first | refine LW.q rfl (Qt.loadAgg [_, _] (by kernel_rfl) rfl ⟨rfl, rfl, trivial⟩) ?_ | refine LW.q rfl (Qt.loadAgg [_, _] (by kernel_rfl) rfl (by exact rdl_flat _ _ _ (by intros; rfl) _ (by omega))) ?_
  refine LW.q rfl (Qt.move rfl) ?_
  refine LW.q rfl (Qt.move rfl) ?_
  refine LW.e rfl (Ef.call (Rl.open B ⟨S0, []⟩ p0 q0 a0 c0 6 0 l0 rfl o0 (by omega) first count _ _ rfl rfl (by omega) (by omega)) Tryd.func29 rfl rfl rfl ?_)
  rintro _ _ ⟨p4, a4, kk2, ss2, R4, q4, cq4, x1, rfl, rfl⟩
  try simp only [List.cons_append, List.nil_append]
  rw [hal, u1] at x1
  injection x1 with x1 x2
  injection x2 with x2 x3
  subst x1
  subst x2
  subst x3
  rw [hal, List.length_map, hW6, hS6]
  refine LW.q rfl (Qt.move rfl) ?_
  refine LW.q rfl (Qt.extract rfl rfl) ?_
  refine LW.q rfl (Qt.extract rfl rfl) ?_
  refine LW.q rfl (Qt.extract rfl rfl) ?_
  refine LW.q rfl (Qt.extract rfl rfl) ?_
  refine LW.e rfl (Ef.alloc [.string .empty, .int .u32 0, .int .i64 0, .int .i64 0, .int .i64 0] (by unfold zeroB; kernel_rfl) ?_)
  intro g14
  refine LW.e0 rfl (Ef.store [_, _] (by kernel_rfl) rfl rfl rfl rfl (by simp) ?_)
  try simp only [splice, List.length_cons, List.length_nil, List.drop_succ_cons, List.cons_append, List.take_succ_cons, List.take_zero, List.drop_zero, List.nil_append, List.append_nil]
  refine LW.e0 rfl (Ef.store [_, _, _, _, _] (by kernel_rfl) rfl rfl rfl rfl (by simp) ?_)
  try simp only [splice, List.length_cons, List.length_nil, List.drop_succ_cons, List.cons_append, List.take_succ_cons, List.take_zero, List.drop_zero, List.nil_append, List.append_nil]
  refine LW.q rfl (Qt.assign rfl) ?_
  refine LW.q rfl (Qt.assign rfl) ?_
  refine LW.done ?_
  refine T.seq ?_
  refine T.seq ?_
  refine T.region ?_
  refine LW.q rfl (Qt.move rfl) ?_
  refine LW.q rfl (Qt.move rfl) ?_
  refine LW.q rfl (Qt.neq rfl rfl) ?_
  refine LW.q rfl (Qt.move rfl) ?_
  first | refine LW.gF (t := 55) rfl rfl ?_ | refine LW.gF (t := 55) rfl (decide_eq_false (by omega)) ?_ | refine LW.gF (t := 55) rfl (by omega) ?_
  refine LW.q rfl (Qt.move rfl) ?_
  first | refine LW.q rfl (Qt.eqlNil (by kernel_rfl) rfl rfl) ?_ | refine LW.q rfl (Qt.eqlNN (by kernel_rfl) rfl rfl) ?_
  refine LW.q rfl (Qt.move rfl) ?_
  refine LW.q rfl (Qt.neq rfl rfl) ?_
  refine LW.q rfl (Qt.neqB (by kernel_rfl) rfl rfl) ?_
  refine LW.q rfl (Qt.pick rfl rfl) ?_
  refine LW.q rfl (Qt.move rfl) ?_
  first | refine LW.gF (t := 62) rfl rfl ?_ | refine LW.gF (t := 62) rfl (decide_eq_false (by omega)) ?_ | refine LW.gF (t := 62) rfl (by omega) ?_
  refine LW.q rfl (Qt.move rfl) ?_
  refine LW.q rfl (Qt.move rfl) ?_
  refine LW.e rfl (Ef.call (Rl.records B R3 (R3.map fun x => (x.mark, x.r.b)) q3 q4 cq3 cq4 R3.length rfl hRn rfl) Tryd.func30 rfl rfl rfl ?_)
  rintro _ _ ⟨rfl, rfl⟩
  try simp only [List.cons_append, List.nil_append]
  first | refine LW.q rfl (Qt.notP rfl) ?_ | refine LW.q rfl (Qt.notB rfl) ?_
  refine LW.q rfl (Qt.pick rfl rfl) ?_
  refine LW.done ?_
  first | refine T.condF rfl ?_ | refine T.condPF rfl (by omega) ?_ | refine T.condBF rfl (by omega) ?_
  refine T.skip ?_
  refine T.seq ?_
  refine T.seq ?_
  refine T.region ?_
  refine LW.q rfl (Qt.move rfl) ?_
  first | refine LW.q rfl (Qt.eqlNil (by kernel_rfl) rfl rfl) ?_ | refine LW.q rfl (Qt.eqlNN (by kernel_rfl) rfl rfl) ?_
  refine LW.done ?_
  first | refine T.condF rfl ?_ | refine T.condPF rfl (by omega) ?_ | refine T.condBF rfl (by omega) ?_
  refine T.skip ?_
  refine T.seq ?_
  refine T.seq ?_
  refine T.region ?_
  refine LW.q rfl (Qt.move rfl) ?_
  refine LW.q rfl (Qt.len (e := 76) (sz := 6) (by kernel_rfl) rfl) ?_
  refine LW.q rfl (Qt.move rfl) ?_
  refine LW.done ?_
  refine T.block ?_
  refine T.loop (fun mz fz lz => ∃ (f0 : Fr) (k : Nat) (W : Wl) (Sc : List (List UInt8)) (gl : Nat) (p q : Option Addr) (a c : Nat), (k ≤ sc.length ∧ DD.Ok ⟨Sc, []⟩ ∧ Sc.length = 6 ∧ W.first = first ∧ W.count = count ∧ W.st.length ≤ count * 256 ∧ W.dur ≤ W.st.length) ∧ mz = sc.length - k ∧ fz = (upd (upd (upd (upd (upd (upd (upd (upd (upd f0 0 (.int .i64 first)) 1 (.int .i64 count)) 7 (.pointer (some ⟨bd, 0, none⟩))) 9 (.pointer (some ⟨g9, 0, none⟩))) 11 (.pointer (some ⟨gl, 0, none⟩))) 14 (.pointer (some ⟨g14, 0, none⟩))) 70 (.slice sa sc.length scap)) 71 (.int .i64 sc.length)) 72 (.int .i64 k)) ∧ lz = wlA gl bd W :: dskA bd ⟨Sc, []⟩ :: rS (.slice p 6 a) 6 Sc :: rW (.slice q 0 c) 0 [] :: blk g9 [.slice p 6 a, .slice q 0 c] 63 :: blk g14 [.string (strOf W.st), .int .u32 W.sum.toNat, .int .i64 W.dur, .int .i64 W.first, .int .i64 W.count] 68 :: F) ?_ ?_
  · refine ⟨_, _, ⟨_, 0, W6, S6, gl2, p4, none, a4, 0, ⟨Nat.zero_le _, y2, y3, z1, z2, by omega, by omega⟩, rfl, (updS rfl (updS rfl (updS rfl (updS rfl (updS rfl (updS rfl (updS rfl (updS rfl (updS rfl rfl))))))))), rfl⟩, Sub.any⟩
  · skip
    rintro mz fz lz ⟨f0, k, W, Sc, gl, p, q, a, c, ⟨hk, ho, hsl, hwf, hwc, hwl, hwd⟩, hmz, rfl, rfl⟩
    subst mz
    try simp only [List.cons_append, List.nil_append]
    refine T.seq ?_
    refine T.region ?_
    refine LW.q rfl (Qt.lss rfl rfl) ?_
    refine LW.done ?_
    refine T.seq ?_
    refine T.condP rfl (fun hlt => ?_) (fun hlt => ?_)
    · skip
      obtain ⟨kb, ko, C, rfl, hro, hC⟩ := hsc.resolve_left (by intro e; rw [e] at hlt; simp at hlt; omega)
      obtain ⟨da, dc, ka, kc, hrd, hdv, hkv⟩ := hC k (by omega)
      have hxl := hdl sc[k] (List.getElem_mem _)
      refine T.skip ?_
      refine T.seq ?_
      refine T.block ?_
      refine T.seq ?_
      refine T.region ?_
      refine LW.q rfl (Qt.index _ (e := 76) (sz := 6) (by kernel_rfl) rfl rfl rfl (by omega)) ?_
      refine LW.q rfl (Qt.loadAgg [_, _, _, _, _, _] (by kernel_rfl) rfl hrd) ?_
      refine LW.e rfl (Ef.alloc [.int .i64 0, .slice none 0 0, .int .i64 0, .slice none 0 0, .int .i64 0, .int .i64 0] (by unfold zeroB; kernel_rfl) ?_)
      intro g18
      refine LW.e0 rfl (Ef.store [_, _, _, _, _, _] (by kernel_rfl) rfl rfl rfl rfl (by simp) ?_)
      try simp only [splice, List.length_cons, List.length_nil, List.drop_succ_cons, List.cons_append, List.take_succ_cons, List.take_zero, List.drop_zero, List.nil_append, List.append_nil]
      refine LW.done ?_
      refine T.cut (fun fz lz => ∃ (f0 : Fr) (W : Wl) (Sc : List (List UInt8)) (gl : Nat) (p q : Option Addr) (a c : Nat), (DD.Ok ⟨Sc, []⟩ ∧ Sc.length = 6 ∧ W.first = first ∧ W.count = count ∧ W.st.length ≤ count * 256 ∧ W.dur ≤ W.st.length) ∧ fz = (upd (upd (upd (upd (upd (upd (upd (upd (upd f0 0 (.int .i64 first)) 1 (.int .i64 count)) 7 (.pointer (some ⟨bd, 0, none⟩))) 9 (.pointer (some ⟨g9, 0, none⟩))) 11 (.pointer (some ⟨gl, 0, none⟩))) 14 (.pointer (some ⟨g14, 0, none⟩))) 70 (.slice (some ⟨kb, ko, none⟩) sc.length scap)) 71 (.int .i64 sc.length)) 72 (.int .i64 k)) ∧ lz = wlA gl bd W :: dskA bd ⟨Sc, []⟩ :: rS (.slice p 6 a) 6 Sc :: rW (.slice q 0 c) 0 [] :: blk g9 [.slice p 6 a, .slice q 0 c] 63 :: blk g14 [.string (strOf W.st), .int .u32 W.sum.toNat, .int .i64 W.dur, .int .i64 W.first, .int .i64 W.count] 68 :: F) ?_ ?_
      · skip
        refine T.seq ?_
        refine T.region ?_
        refine LW.q rfl (Qt.fieldAddr0 (by kernel_rfl) rfl) ?_
        first | refine LW.q rfl (Qt.load (by kernel_rfl) rfl rfl) ?_ | refine LW.q rfl (Qt.load (by kernel_rfl) rfl (map_at _ _ _ (by omega))) ?_ | refine LW.q rfl (Qt.load (by kernel_rfl) rfl (flat_cell0 _ _ _ (by intros; rfl) _ (by omega) (by rfl))) ?_ | refine LW.q rfl (Qt.load (by kernel_rfl) rfl (flat_cell _ _ _ (by intros; rfl) _ _ (by omega) (by rfl))) ?_ | refine LW.q rfl (Qt.load (by kernel_rfl) rfl (bytes_at _ _ (by omega))) ?_
        refine LW.done ?_
        refine T.block ?_
        refine T.seq ?_
        refine T.region ?_
        refine LW.q rfl (Qt.eql rfl rfl) ?_
        refine LW.q rfl (Qt.assign rfl) ?_
        refine LW.done ?_
        refine T.condP rfl (fun k0 => ?_) (fun k0 => ?_)
        · skip
          refine T.seq ?_
          refine T.region ?_
          refine LW.q rfl (Qt.move rfl) ?_
          refine LW.q rfl (Qt.fieldAddr (off := 1) (by kernel_rfl) rfl) ?_
          first | refine LW.q rfl (Qt.load (by kernel_rfl) rfl rfl) ?_ | refine LW.q rfl (Qt.load (by kernel_rfl) rfl (map_at _ _ _ (by omega))) ?_ | refine LW.q rfl (Qt.load (by kernel_rfl) rfl (flat_cell0 _ _ _ (by intros; rfl) _ (by omega) (by rfl))) ?_ | refine LW.q rfl (Qt.load (by kernel_rfl) rfl (flat_cell _ _ _ (by intros; rfl) _ _ (by omega) (by rfl))) ?_ | refine LW.q rfl (Qt.load (by kernel_rfl) rfl (bytes_at _ _ (by omega))) ?_
          refine LW.e rfl (Ef.one [_] (e := 22) (sz := 1) (by kernel_rfl) ⟨.slice none 0 0, by kernel_rfl, rfl⟩ rfl rfl rfl (by omega) (by omega) ?_)
          intro g84
          refine LW.e rfl (Ef.call (Wl.add B [blk g84 [.slice da sc[k].data.length dc] 22] gl bd W (some ⟨g84, 0, none⟩) 1 [sc[k].data] 1 rfl (PartsV.one (hdv.rd _)) (by simp) (by simp) sc[k].data (by simp) (by omega) (by omega) (by rw [hwc]; exact hwl)) Tryd.func26 rfl rfl rfl ?_)
          rintro _ _ ⟨rfl, rfl⟩
          try simp only [List.cons_append, List.nil_append]
          refine LW.q rfl (Qt.move rfl) ?_
          refine LW.q rfl (Qt.extract rfl rfl) ?_
          refine LW.q rfl (Qt.extract rfl rfl) ?_
          refine LW.q rfl (Qt.assign rfl) ?_
          refine LW.q rfl (Qt.assign rfl) ?_
          refine LW.done ?_
          refine T.seq ?_
          refine T.region ?_
          first | refine LW.q rfl (Qt.loadAgg [_, _, _, _, _] (by kernel_rfl) rfl ⟨rfl, rfl, rfl, rfl, rfl, trivial⟩) ?_ | refine LW.q rfl (Qt.loadAgg [_, _, _, _, _] (by kernel_rfl) rfl (by exact rdl_flat _ _ _ (by intros; rfl) _ (by omega))) ?_
          refine LW.q rfl (Qt.fieldAddr (off := 1) (by kernel_rfl) rfl) ?_
          first | refine LW.q rfl (Qt.load (by kernel_rfl) rfl rfl) ?_ | refine LW.q rfl (Qt.load (by kernel_rfl) rfl (map_at _ _ _ (by omega))) ?_ | refine LW.q rfl (Qt.load (by kernel_rfl) rfl (flat_cell0 _ _ _ (by intros; rfl) _ (by omega) (by rfl))) ?_ | refine LW.q rfl (Qt.load (by kernel_rfl) rfl (flat_cell _ _ _ (by intros; rfl) _ _ (by omega) (by rfl))) ?_ | refine LW.q rfl (Qt.load (by kernel_rfl) rfl (bytes_at _ _ (by omega))) ?_
          refine LW.q rfl (Qt.str sc[k].data (by kernel_rfl) (by kernel_rfl) rfl (hdv.rd _).str) ?_
          refine LW.e rfl (Ef.call (Rl.add B W sc[k].data (by omega) (by rw [hwc]; exact hwl) (by omega)) Tryd.func31 rfl rfl rfl ?_)
          rintro _ _ ⟨rfl, rfl⟩
          try simp only [List.cons_append, List.nil_append]
          obtain ⟨W2, x2, e2, hadd⟩ : ∃ W2 x2 e2, addW W sc[k].data = (W2, x2, e2) := ⟨_, _, _, rfl⟩
          obtain ⟨w1, w2, w3, w4, w5, w6⟩ := addW_fits hadd (by rw [hwc]; exact hwl) hwd
          simp only [hadd]
          refine LW.q rfl (Qt.move rfl) ?_
          refine LW.q rfl (Qt.extract rfl rfl) ?_
          refine LW.q rfl (Qt.extract rfl rfl) ?_
          refine LW.e rfl (Ef.alloc [.string .empty, .int .u32 0, .int .i64 0, .int .i64 0, .int .i64 0] (by unfold zeroB; kernel_rfl) ?_)
          intro g21
          refine LW.e0 rfl (Ef.store [_, _, _, _, _] (by kernel_rfl) rfl rfl rfl rfl (by simp) ?_)
          try simp only [splice, List.length_cons, List.length_nil, List.drop_succ_cons, List.cons_append, List.take_succ_cons, List.take_zero, List.drop_zero, List.nil_append, List.append_nil]
          refine LW.q rfl (Qt.assign rfl) ?_
          refine LW.done ?_
          refine T.seq ?_
          refine T.region ?_
          first | refine LW.q rfl (Qt.loadAgg [_, _, _, _, _] (by kernel_rfl) rfl ⟨rfl, rfl, rfl, rfl, rfl, trivial⟩) ?_ | refine LW.q rfl (Qt.loadAgg [_, _, _, _, _] (by kernel_rfl) rfl (by exact rdl_flat _ _ _ (by intros; rfl) _ (by omega))) ?_
          refine LW.e0 rfl (Ef.store [_, _, _, _, _] (by kernel_rfl) rfl rfl rfl rfl (by simp) ?_)
          try simp only [splice, List.length_cons, List.length_nil, List.drop_succ_cons, List.cons_append, List.take_succ_cons, List.take_zero, List.drop_zero, List.nil_append, List.append_nil]
          refine LW.done ?_
          refine T.seq ?_
          refine T.region ?_
          refine LW.q rfl (Qt.move rfl) ?_
          refine LW.q rfl (Qt.move rfl) ?_
          refine LW.q rfl (Qt.neq rfl rfl) ?_
          refine LW.q rfl (Qt.move rfl) ?_
          first | refine LW.gF (t := 100) rfl rfl ?_ | refine LW.gF (t := 100) rfl (decide_eq_false (by omega)) ?_ | refine LW.gF (t := 100) rfl (by omega) ?_
          refine LW.q rfl (Qt.move rfl) ?_
          refine LW.q rfl (Qt.eql rfl rfl) ?_
          refine LW.q rfl (Qt.move rfl) ?_
          by_cases he2 : e2 = 0
          · skip
            subst he2
            have w5 := w5 rfl
            subst w5
            first | refine LW.gT (t := 103) rfl rfl ?_ | refine LW.gT (t := 103) rfl (decide_eq_true (by omega)) ?_ | refine LW.gT (t := 103) rfl (by omega) ?_
            refine LW.q rfl (Qt.move rfl) ?_
            refine LW.q rfl (Qt.fieldAddr0 (by kernel_rfl) rfl) ?_
            first | refine LW.q rfl (Qt.load (by kernel_rfl) rfl rfl) ?_ | refine LW.q rfl (Qt.load (by kernel_rfl) rfl (map_at _ _ _ (by omega))) ?_ | refine LW.q rfl (Qt.load (by kernel_rfl) rfl (flat_cell0 _ _ _ (by intros; rfl) _ (by omega) (by rfl))) ?_ | refine LW.q rfl (Qt.load (by kernel_rfl) rfl (flat_cell _ _ _ (by intros; rfl) _ _ (by omega) (by rfl))) ?_ | refine LW.q rfl (Qt.load (by kernel_rfl) rfl (bytes_at _ _ (by omega))) ?_
            first | refine LW.q rfl (Qt.lenSt (by kernel_rfl) rfl) ?_ | refine LW.q rfl (Qt.lenS (by kernel_rfl) rfl) ?_
            refine LW.q rfl (Qt.neq rfl rfl) ?_
            refine LW.q rfl (Qt.pick rfl rfl) ?_
            refine LW.q rfl (Qt.pick rfl rfl) ?_
            refine LW.q rfl (Qt.move rfl) ?_
            first | refine LW.gF (t := 111) rfl rfl ?_ | refine LW.gF (t := 111) rfl (decide_eq_false (by omega)) ?_ | refine LW.gF (t := 111) rfl (by omega) ?_
            refine LW.q rfl (Qt.move rfl) ?_
            refine LW.q rfl (Qt.neq rfl rfl) ?_
            refine LW.q rfl (Qt.move rfl) ?_
            first | refine LW.gF (t := 114) rfl rfl ?_ | refine LW.gF (t := 114) rfl (decide_eq_false (by omega)) ?_ | refine LW.gF (t := 114) rfl (by omega) ?_
            refine LW.s rfl ?_
            refine LW.s rfl ?_
            refine LW.q rfl (Qt.pick rfl rfl) ?_
            refine LW.q rfl (Qt.pick rfl rfl) ?_
            refine LW.done ?_
            first | refine T.condF rfl ?_ | refine T.condPF rfl (by omega) ?_ | refine T.condBF rfl (by omega) ?_
            refine T.skip ?_
            exact ⟨_, ⟨_, W2, Sc, gl, p, q, a, c, ⟨ho, hsl, by omega, by omega, by omega, by omega⟩, (updS rfl (updS rfl (updS rfl (updS rfl (updS rfl (updS rfl (updS rfl (updS rfl (updS rfl rfl))))))))), rfl⟩, Sub.any⟩
          · skip
            have w6 := w6 he2
            subst w6
            first | refine LW.gF (t := 103) rfl rfl ?_ | refine LW.gF (t := 103) rfl (decide_eq_false (by omega)) ?_ | refine LW.gF (t := 103) rfl (by omega) ?_
            refine LW.s rfl ?_
            refine LW.s rfl ?_
            refine LW.s rfl ?_
            refine LW.s rfl ?_
            refine LW.s rfl ?_
            refine LW.q rfl (Qt.pick rfl rfl) ?_
            refine LW.q rfl (Qt.pick rfl rfl) ?_
            refine LW.q rfl (Qt.move rfl) ?_
            first | refine LW.gF (t := 111) rfl rfl ?_ | refine LW.gF (t := 111) rfl (decide_eq_false (by omega)) ?_ | refine LW.gF (t := 111) rfl (by omega) ?_
            refine LW.q rfl (Qt.move rfl) ?_
            refine LW.q rfl (Qt.neq rfl rfl) ?_
            refine LW.q rfl (Qt.move rfl) ?_
            first | refine LW.gT (t := 114) rfl rfl ?_ | refine LW.gT (t := 114) rfl (decide_eq_true (by omega)) ?_ | refine LW.gT (t := 114) rfl (by omega) ?_
            refine LW.q rfl (Qt.move rfl) ?_
            refine LW.q rfl (Qt.neq rfl rfl) ?_
            refine LW.q rfl (Qt.pick rfl rfl) ?_
            refine LW.q rfl (Qt.pick rfl rfl) ?_
            refine LW.done ?_
            first | refine T.condF rfl ?_ | refine T.condPF rfl (by omega) ?_ | refine T.condBF rfl (by omega) ?_
            refine T.skip ?_
            exact ⟨_, ⟨_, W2, Sc, gl, p, q, a, c, ⟨ho, hsl, by omega, by omega, by omega, by omega⟩, (updS rfl (updS rfl (updS rfl (updS rfl (updS rfl (updS rfl (updS rfl (updS rfl (updS rfl rfl))))))))), rfl⟩, Sub.any⟩
        · skip
          refine T.seq ?_
          refine T.region ?_
          refine LW.q rfl (Qt.eql rfl rfl) ?_
          refine LW.q rfl (Qt.assign rfl) ?_
          refine LW.done ?_
          refine T.condP rfl (fun k1 => ?_) (fun k1 => ?_)
          · skip
            by_cases hmk : sc[k].mark ≤ W.dur
            · skip
              refine T.seq ?_
              refine T.region ?_
              refine LW.q rfl (Qt.move rfl) ?_
              refine LW.q rfl (Qt.fieldAddr (off := 2) (by kernel_rfl) rfl) ?_
              first | refine LW.q rfl (Qt.load (by kernel_rfl) rfl rfl) ?_ | refine LW.q rfl (Qt.load (by kernel_rfl) rfl (map_at _ _ _ (by omega))) ?_ | refine LW.q rfl (Qt.load (by kernel_rfl) rfl (flat_cell0 _ _ _ (by intros; rfl) _ (by omega) (by rfl))) ?_ | refine LW.q rfl (Qt.load (by kernel_rfl) rfl (flat_cell _ _ _ (by intros; rfl) _ _ (by omega) (by rfl))) ?_ | refine LW.q rfl (Qt.load (by kernel_rfl) rfl (bytes_at _ _ (by omega))) ?_
              refine LW.e rfl (Ef.call (Wl.forceNo B gl bd W sc[k].mark (by omega) hmk) Tryd.func32 rfl rfl rfl ?_)
              rintro _ _ ⟨rfl, rfl⟩
              try simp only [List.cons_append, List.nil_append]
              refine LW.done ?_
              refine T.seq ?_
              refine T.region ?_
              refine LW.q rfl (Qt.fieldAddr (off := 2) (by kernel_rfl) rfl) ?_
              first | refine LW.q rfl (Qt.load (by kernel_rfl) rfl rfl) ?_ | refine LW.q rfl (Qt.load (by kernel_rfl) rfl (map_at _ _ _ (by omega))) ?_ | refine LW.q rfl (Qt.load (by kernel_rfl) rfl (flat_cell0 _ _ _ (by intros; rfl) _ (by omega) (by rfl))) ?_ | refine LW.q rfl (Qt.load (by kernel_rfl) rfl (flat_cell _ _ _ (by intros; rfl) _ _ (by omega) (by rfl))) ?_ | refine LW.q rfl (Qt.load (by kernel_rfl) rfl (bytes_at _ _ (by omega))) ?_
              refine LW.q rfl (Qt.fieldAddr (off := 2) (by kernel_rfl) rfl) ?_
              first | refine LW.q rfl (Qt.load (by kernel_rfl) rfl rfl) ?_ | refine LW.q rfl (Qt.load (by kernel_rfl) rfl (map_at _ _ _ (by omega))) ?_ | refine LW.q rfl (Qt.load (by kernel_rfl) rfl (flat_cell0 _ _ _ (by intros; rfl) _ (by omega) (by rfl))) ?_ | refine LW.q rfl (Qt.load (by kernel_rfl) rfl (flat_cell _ _ _ (by intros; rfl) _ _ (by omega) (by rfl))) ?_ | refine LW.q rfl (Qt.load (by kernel_rfl) rfl (bytes_at _ _ (by omega))) ?_
              refine LW.q rfl (Qt.gtr rfl rfl) ?_
              refine LW.done ?_
              first | refine T.condF rfl ?_ | refine T.condPF rfl (by omega) ?_ | refine T.condBF rfl (by omega) ?_
              refine T.skip ?_
              exact ⟨_, ⟨_, W, Sc, gl, p, q, a, c, ⟨ho, hsl, hwf, hwc, hwl, hwd⟩, (updS rfl (updS rfl (updS rfl (updS rfl (updS rfl (updS rfl (updS rfl (updS rfl (updS rfl rfl))))))))), rfl⟩, Sub.any⟩
            · skip
              obtain ⟨f1, f2, f3⟩ := flushE_ok (W := W) ho (by show W.first + W.count ≤ Sc.length; omega) (by rw [hwc]; exact hwl) hwd rfl
              obtain ⟨S7, hS7⟩ : ∃ S7, flushE W ⟨Sc, []⟩ = ⟨S7, []⟩ := ⟨_, DD.eta_nil f3⟩
              rw [hS7] at f1 f2
              have f2' : S7.length = 6 := f2.trans hsl
              refine T.seq ?_
              refine T.region ?_
              refine LW.q rfl (Qt.move rfl) ?_
              refine LW.q rfl (Qt.fieldAddr (off := 2) (by kernel_rfl) rfl) ?_
              first | refine LW.q rfl (Qt.load (by kernel_rfl) rfl rfl) ?_ | refine LW.q rfl (Qt.load (by kernel_rfl) rfl (map_at _ _ _ (by omega))) ?_ | refine LW.q rfl (Qt.load (by kernel_rfl) rfl (flat_cell0 _ _ _ (by intros; rfl) _ (by omega) (by rfl))) ?_ | refine LW.q rfl (Qt.load (by kernel_rfl) rfl (flat_cell _ _ _ (by intros; rfl) _ _ (by omega) (by rfl))) ?_ | refine LW.q rfl (Qt.load (by kernel_rfl) rfl (bytes_at _ _ (by omega))) ?_
              refine LW.e rfl (Ef.call (Wl.forceYes B gl bd W ⟨Sc, []⟩ sc[k].mark (by show W.first + W.count ≤ Sc.length; omega) (by show Sc.length ≤ _; omega) (by rw [hwc]; exact hwl) hwd (by simp) (by omega)) Tryd.func32 rfl rfl rfl ?_)
              rintro _ _ ⟨rfl, rfl⟩
              try simp only [List.cons_append, List.nil_append]
              rw [hS7]
              refine LW.done ?_
              refine T.seq ?_
              refine T.region ?_
              refine LW.q rfl (Qt.fieldAddr (off := 2) (by kernel_rfl) rfl) ?_
              first | refine LW.q rfl (Qt.load (by kernel_rfl) rfl rfl) ?_ | refine LW.q rfl (Qt.load (by kernel_rfl) rfl (map_at _ _ _ (by omega))) ?_ | refine LW.q rfl (Qt.load (by kernel_rfl) rfl (flat_cell0 _ _ _ (by intros; rfl) _ (by omega) (by rfl))) ?_ | refine LW.q rfl (Qt.load (by kernel_rfl) rfl (flat_cell _ _ _ (by intros; rfl) _ _ (by omega) (by rfl))) ?_ | refine LW.q rfl (Qt.load (by kernel_rfl) rfl (bytes_at _ _ (by omega))) ?_
              refine LW.q rfl (Qt.fieldAddr (off := 2) (by kernel_rfl) rfl) ?_
              first | refine LW.q rfl (Qt.load (by kernel_rfl) rfl rfl) ?_ | refine LW.q rfl (Qt.load (by kernel_rfl) rfl (map_at _ _ _ (by omega))) ?_ | refine LW.q rfl (Qt.load (by kernel_rfl) rfl (flat_cell0 _ _ _ (by intros; rfl) _ (by omega) (by rfl))) ?_ | refine LW.q rfl (Qt.load (by kernel_rfl) rfl (flat_cell _ _ _ (by intros; rfl) _ _ (by omega) (by rfl))) ?_ | refine LW.q rfl (Qt.load (by kernel_rfl) rfl (bytes_at _ _ (by omega))) ?_
              refine LW.q rfl (Qt.gtr rfl rfl) ?_
              refine LW.done ?_
              first | refine T.condT rfl ?_ | refine T.condPT rfl (by omega) ?_ | refine T.condBT rfl (by omega) ?_
              by_cases hdl2 : W.dur = W.st.length
              · skip
                have hno : flushE W ⟨Sc, []⟩ = ⟨Sc, []⟩ := by unfold flushE; rw [if_pos hdl2]
                rw [hno] at hS7
                injection hS7 with hS7
                subst hS7
                refine T.region ?_
                first | refine LW.q rfl (Qt.loadAgg [_, _] (by kernel_rfl) rfl ⟨rfl, rfl, trivial⟩) ?_ | refine LW.q rfl (Qt.loadAgg [_, _] (by kernel_rfl) rfl (by exact rdl_flat _ _ _ (by intros; rfl) _ (by omega))) ?_
                first | refine LW.q rfl (Qt.loadAgg [_, _, _, _, _] (by kernel_rfl) rfl ⟨rfl, rfl, rfl, rfl, rfl, trivial⟩) ?_ | refine LW.q rfl (Qt.loadAgg [_, _, _, _, _] (by kernel_rfl) rfl (by exact rdl_flat _ _ _ (by intros; rfl) _ (by omega))) ?_
                refine LW.q rfl (Qt.fieldAddr0 (by kernel_rfl) rfl) ?_
                first | refine LW.q rfl (Qt.load (by kernel_rfl) rfl rfl) ?_ | refine LW.q rfl (Qt.load (by kernel_rfl) rfl (map_at _ _ _ (by omega))) ?_ | refine LW.q rfl (Qt.load (by kernel_rfl) rfl (flat_cell0 _ _ _ (by intros; rfl) _ (by omega) (by rfl))) ?_ | refine LW.q rfl (Qt.load (by kernel_rfl) rfl (flat_cell _ _ _ (by intros; rfl) _ _ (by omega) (by rfl))) ?_ | refine LW.q rfl (Qt.load (by kernel_rfl) rfl (bytes_at _ _ (by omega))) ?_
                first | refine LW.q rfl (Qt.lenSt (by kernel_rfl) rfl) ?_ | refine LW.q rfl (Qt.lenS (by kernel_rfl) rfl) ?_
                refine LW.q rfl (Qt.add rfl rfl (wr64 (by omega) (by omega))) ?_
                refine LW.e rfl (Ef.call (Rl.force_no B W p q a c 6 0 _ (by omega) (.inr hdl2)) Tryd.func33 rfl rfl rfl ?_)
                rintro _ _ ⟨rfl, rfl⟩
                try simp only [List.cons_append, List.nil_append]
                rw [show logV W = logV W.flushed by rw [show W.flushed = W by cases W; simp_all [Wl.flushed]]]
                refine LW.q rfl (Qt.move rfl) ?_
                refine LW.q rfl (Qt.extract rfl rfl) ?_
                refine LW.q rfl (Qt.extract rfl rfl) ?_
                refine LW.e0 rfl (Ef.store [_, _] (by kernel_rfl) rfl rfl rfl rfl (by simp) ?_)
                try simp only [splice, List.length_cons, List.length_nil, List.drop_succ_cons, List.cons_append, List.take_succ_cons, List.take_zero, List.drop_zero, List.nil_append, List.append_nil]
                refine LW.e0 rfl (Ef.store [_, _, _, _, _] (by kernel_rfl) rfl rfl rfl rfl (by simp) ?_)
                try simp only [splice, List.length_cons, List.length_nil, List.drop_succ_cons, List.cons_append, List.take_succ_cons, List.take_zero, List.drop_zero, List.nil_append, List.append_nil]
                refine LW.done ?_
                exact ⟨_, ⟨_, W.flushed, Sc, gl, p, q, a, c, ⟨ho, hsl, hwf, hwc, hwl, Nat.le_refl _⟩, (updS rfl (updS rfl (updS rfl (updS rfl (updS rfl (updS rfl (updS rfl (updS rfl (updS rfl rfl))))))))), rfl⟩, Sub.any⟩
              · skip
                have hyes : (flushD W ⟨Sc, []⟩).secs = S7 := by rw [← show flushE W ⟨Sc, []⟩ = flushD W ⟨Sc, []⟩ by unfold flushE; rw [if_neg hdl2], hS7]
                refine T.region ?_
                first | refine LW.q rfl (Qt.loadAgg [_, _] (by kernel_rfl) rfl ⟨rfl, rfl, trivial⟩) ?_ | refine LW.q rfl (Qt.loadAgg [_, _] (by kernel_rfl) rfl (by exact rdl_flat _ _ _ (by intros; rfl) _ (by omega))) ?_
                first | refine LW.q rfl (Qt.loadAgg [_, _, _, _, _] (by kernel_rfl) rfl ⟨rfl, rfl, rfl, rfl, rfl, trivial⟩) ?_ | refine LW.q rfl (Qt.loadAgg [_, _, _, _, _] (by kernel_rfl) rfl (by exact rdl_flat _ _ _ (by intros; rfl) _ (by omega))) ?_
                refine LW.q rfl (Qt.fieldAddr0 (by kernel_rfl) rfl) ?_
                first | refine LW.q rfl (Qt.load (by kernel_rfl) rfl rfl) ?_ | refine LW.q rfl (Qt.load (by kernel_rfl) rfl (map_at _ _ _ (by omega))) ?_ | refine LW.q rfl (Qt.load (by kernel_rfl) rfl (flat_cell0 _ _ _ (by intros; rfl) _ (by omega) (by rfl))) ?_ | refine LW.q rfl (Qt.load (by kernel_rfl) rfl (flat_cell _ _ _ (by intros; rfl) _ _ (by omega) (by rfl))) ?_ | refine LW.q rfl (Qt.load (by kernel_rfl) rfl (bytes_at _ _ (by omega))) ?_
                first | refine LW.q rfl (Qt.lenSt (by kernel_rfl) rfl) ?_ | refine LW.q rfl (Qt.lenS (by kernel_rfl) rfl) ?_
                refine LW.q rfl (Qt.add rfl rfl (wr64 (by omega) (by omega))) ?_
                refine LW.e rfl (Ef.call (Rl.force B W ⟨Sc, []⟩ p q a c 6 0 hsl rfl _ ho (by omega) (by omega) (by rw [hwc]; exact hwl) hwd (by omega) hdl2) Tryd.func33 rfl rfl rfl ?_)
                rintro _ _ ⟨p2, a2, rfl, rfl⟩
                try simp only [List.cons_append, List.nil_append]
                rw [hyes]
                refine LW.q rfl (Qt.move rfl) ?_
                refine LW.q rfl (Qt.extract rfl rfl) ?_
                refine LW.q rfl (Qt.extract rfl rfl) ?_
                refine LW.e0 rfl (Ef.store [_, _] (by kernel_rfl) rfl rfl rfl rfl (by simp) ?_)
                try simp only [splice, List.length_cons, List.length_nil, List.drop_succ_cons, List.cons_append, List.take_succ_cons, List.take_zero, List.drop_zero, List.nil_append, List.append_nil]
                refine LW.e0 rfl (Ef.store [_, _, _, _, _] (by kernel_rfl) rfl rfl rfl rfl (by simp) ?_)
                try simp only [splice, List.length_cons, List.length_nil, List.drop_succ_cons, List.cons_append, List.take_succ_cons, List.take_zero, List.drop_zero, List.nil_append, List.append_nil]
                refine LW.done ?_
                exact ⟨_, ⟨_, W.flushed, S7, gl, p2, none, a2, 0, ⟨f1, f2', hwf, hwc, hwl, Nat.le_refl _⟩, (updS rfl (updS rfl (updS rfl (updS rfl (updS rfl (updS rfl (updS rfl (updS rfl (updS rfl rfl))))))))), rfl⟩, Sub.any⟩
          · skip
            refine T.seq ?_
            refine T.region ?_
            refine LW.q rfl (Qt.eql rfl rfl) ?_
            refine LW.q rfl (Qt.assign rfl) ?_
            refine LW.done ?_
            refine T.condP rfl (fun k2 => ?_) (fun k2 => ?_)
            · skip
              obtain ⟨f1, f2, f3⟩ := flushE_ok (W := W) ho (by show W.first + W.count ≤ Sc.length; omega) (by rw [hwc]; exact hwl) hwd rfl
              obtain ⟨S7, hS7⟩ : ∃ S7, flushE W ⟨Sc, []⟩ = ⟨S7, []⟩ := ⟨_, DD.eta_nil f3⟩
              rw [hS7] at f1 f2
              have f2' : S7.length = 6 := f2.trans hsl
              refine T.seq ?_
              refine T.region ?_
              refine LW.q rfl (Qt.move rfl) ?_
              refine LW.e rfl (Ef.call (Wl.flush B gl bd W ⟨Sc, []⟩ (by show W.first + W.count ≤ Sc.length; omega) (by show Sc.length ≤ _; omega) (by rw [hwc]; exact hwl) hwd (by simp)) Tryd.func27 rfl rfl rfl ?_)
              rintro _ _ ⟨rfl, rfl⟩
              try simp only [List.cons_append, List.nil_append]
              rw [hS7]
              refine LW.done ?_
              refine T.region ?_
              first | refine LW.q rfl (Qt.loadAgg [_, _] (by kernel_rfl) rfl ⟨rfl, rfl, trivial⟩) ?_ | refine LW.q rfl (Qt.loadAgg [_, _] (by kernel_rfl) rfl (by exact rdl_flat _ _ _ (by intros; rfl) _ (by omega))) ?_
              first | refine LW.q rfl (Qt.loadAgg [_, _, _, _, _] (by kernel_rfl) rfl ⟨rfl, rfl, rfl, rfl, rfl, trivial⟩) ?_ | refine LW.q rfl (Qt.loadAgg [_, _, _, _, _] (by kernel_rfl) rfl (by exact rdl_flat _ _ _ (by intros; rfl) _ (by omega))) ?_
              refine LW.q rfl (Qt.fieldAddr0 (by kernel_rfl) rfl) ?_
              first | refine LW.q rfl (Qt.load (by kernel_rfl) rfl rfl) ?_ | refine LW.q rfl (Qt.load (by kernel_rfl) rfl (map_at _ _ _ (by omega))) ?_ | refine LW.q rfl (Qt.load (by kernel_rfl) rfl (flat_cell0 _ _ _ (by intros; rfl) _ (by omega) (by rfl))) ?_ | refine LW.q rfl (Qt.load (by kernel_rfl) rfl (flat_cell _ _ _ (by intros; rfl) _ _ (by omega) (by rfl))) ?_ | refine LW.q rfl (Qt.load (by kernel_rfl) rfl (bytes_at _ _ (by omega))) ?_
              first | refine LW.q rfl (Qt.lenSt (by kernel_rfl) rfl) ?_ | refine LW.q rfl (Qt.lenS (by kernel_rfl) rfl) ?_
              by_cases hdl2 : W.dur = W.st.length
              · skip
                have hno : flushE W ⟨Sc, []⟩ = ⟨Sc, []⟩ := by unfold flushE; rw [if_pos hdl2]
                rw [hno] at hS7
                injection hS7 with hS7
                subst hS7
                refine LW.e rfl (Ef.call (Rl.force_no B W p q a c 6 0 _ (by omega) (.inr hdl2)) Tryd.func33 rfl rfl rfl ?_)
                rintro _ _ ⟨rfl, rfl⟩
                try simp only [List.cons_append, List.nil_append]
                rw [show logV W = logV W.flushed by rw [show W.flushed = W by cases W; simp_all [Wl.flushed]]]
                refine LW.q rfl (Qt.move rfl) ?_
                refine LW.q rfl (Qt.extract rfl rfl) ?_
                refine LW.q rfl (Qt.extract rfl rfl) ?_
                refine LW.e0 rfl (Ef.store [_, _] (by kernel_rfl) rfl rfl rfl rfl (by simp) ?_)
                try simp only [splice, List.length_cons, List.length_nil, List.drop_succ_cons, List.cons_append, List.take_succ_cons, List.take_zero, List.drop_zero, List.nil_append, List.append_nil]
                refine LW.e0 rfl (Ef.store [_, _, _, _, _] (by kernel_rfl) rfl rfl rfl rfl (by simp) ?_)
                try simp only [splice, List.length_cons, List.length_nil, List.drop_succ_cons, List.cons_append, List.take_succ_cons, List.take_zero, List.drop_zero, List.nil_append, List.append_nil]
                refine LW.done ?_
                exact ⟨_, ⟨_, W.flushed, Sc, gl, p, q, a, c, ⟨ho, hsl, hwf, hwc, hwl, Nat.le_refl _⟩, (updS rfl (updS rfl (updS rfl (updS rfl (updS rfl (updS rfl (updS rfl (updS rfl (updS rfl rfl))))))))), rfl⟩, Sub.any⟩
              · skip
                have hyes : (flushD W ⟨Sc, []⟩).secs = S7 := by rw [← show flushE W ⟨Sc, []⟩ = flushD W ⟨Sc, []⟩ by unfold flushE; rw [if_neg hdl2], hS7]
                refine LW.e rfl (Ef.call (Rl.force B W ⟨Sc, []⟩ p q a c 6 0 hsl rfl _ ho (by omega) (by omega) (by rw [hwc]; exact hwl) hwd (by omega) hdl2) Tryd.func33 rfl rfl rfl ?_)
                rintro _ _ ⟨p2, a2, rfl, rfl⟩
                try simp only [List.cons_append, List.nil_append]
                rw [hyes]
                refine LW.q rfl (Qt.move rfl) ?_
                refine LW.q rfl (Qt.extract rfl rfl) ?_
                refine LW.q rfl (Qt.extract rfl rfl) ?_
                refine LW.e0 rfl (Ef.store [_, _] (by kernel_rfl) rfl rfl rfl rfl (by simp) ?_)
                try simp only [splice, List.length_cons, List.length_nil, List.drop_succ_cons, List.cons_append, List.take_succ_cons, List.take_zero, List.drop_zero, List.nil_append, List.append_nil]
                refine LW.e0 rfl (Ef.store [_, _, _, _, _] (by kernel_rfl) rfl rfl rfl rfl (by simp) ?_)
                try simp only [splice, List.length_cons, List.length_nil, List.drop_succ_cons, List.cons_append, List.take_succ_cons, List.take_zero, List.drop_zero, List.nil_append, List.append_nil]
                refine LW.done ?_
                exact ⟨_, ⟨_, W.flushed, S7, gl, p2, none, a2, 0, ⟨f1, f2', hwf, hwc, hwl, Nat.le_refl _⟩, (updS rfl (updS rfl (updS rfl (updS rfl (updS rfl (updS rfl (updS rfl (updS rfl (updS rfl rfl))))))))), rfl⟩, Sub.any⟩
            · skip
              refine T.seq ?_
              refine T.seq ?_
              refine T.region ?_
              refine LW.q rfl (Qt.eql rfl rfl) ?_
              refine LW.q rfl (Qt.assign rfl) ?_
              refine LW.done ?_
              refine T.condP rfl (fun k3 => ?_) (fun k3 => ?_)
              · skip
                refine T.skip ?_
                first | refine T.condT rfl ?_ | refine T.condPT rfl (by omega) ?_ | refine T.condBT rfl (by omega) ?_
                refine T.seq ?_
                refine T.seq ?_
                refine T.region ?_
                refine LW.q rfl (Qt.fieldAddr0 (by kernel_rfl) rfl) ?_
                first | refine LW.q rfl (Qt.load (by kernel_rfl) rfl rfl) ?_ | refine LW.q rfl (Qt.load (by kernel_rfl) rfl (map_at _ _ _ (by omega))) ?_ | refine LW.q rfl (Qt.load (by kernel_rfl) rfl (flat_cell0 _ _ _ (by intros; rfl) _ (by omega) (by rfl))) ?_ | refine LW.q rfl (Qt.load (by kernel_rfl) rfl (flat_cell _ _ _ (by intros; rfl) _ _ (by omega) (by rfl))) ?_ | refine LW.q rfl (Qt.load (by kernel_rfl) rfl (bytes_at _ _ (by omega))) ?_
                refine LW.q rfl (Qt.eql rfl rfl) ?_
                refine LW.q rfl (Qt.move rfl) ?_
                first | refine LW.gF (t := 159) rfl rfl ?_ | refine LW.gF (t := 159) rfl (decide_eq_false (by omega)) ?_ | refine LW.gF (t := 159) rfl (by omega) ?_
                refine LW.s rfl ?_
                refine LW.s rfl ?_
                refine LW.s rfl ?_
                refine LW.q rfl (Qt.pick rfl rfl) ?_
                refine LW.q rfl (Qt.move rfl) ?_
                first | refine LW.gF (t := 164) rfl rfl ?_ | refine LW.gF (t := 164) rfl (decide_eq_false (by omega)) ?_ | refine LW.gF (t := 164) rfl (by omega) ?_
                refine LW.s rfl ?_
                refine LW.s rfl ?_
                refine LW.s rfl ?_
                refine LW.s rfl ?_
                refine LW.q rfl (Qt.pick rfl rfl) ?_
                refine LW.done ?_
                first | refine T.condF rfl ?_ | refine T.condPF rfl (by omega) ?_ | refine T.condBF rfl (by omega) ?_
                have oc := ho.cr sc[k].keep sc[k].t0 sc[k].t1
                have ocl := DD.crash_len ho sc[k].keep sc[k].t0 sc[k].t1
                obtain ⟨S5, hS5⟩ : ∃ S5, (⟨Sc, []⟩ : DD).crash sc[k].keep sc[k].t0 sc[k].t1 = ⟨S5, []⟩ := ⟨_, rfl⟩
                have oce : DD.lays ⟨Sc, []⟩ (fun i => some (rAmt false sc[k].keep sc[k].t0 sc[k].t1 i)) 0 = S5 := congrArg DD.secs hS5
                rw [hS5] at oc ocl
                have ocl6 : S5.length = 6 := ocl.trans hsl
                refine T.skip ?_
                refine T.seq ?_
                refine T.region ?_
                refine LW.q rfl (Qt.move rfl) ?_
                refine LW.q rfl (Qt.fieldAddr (off := 3) (by kernel_rfl) rfl) ?_
                first | refine LW.q rfl (Qt.load (by kernel_rfl) rfl rfl) ?_ | refine LW.q rfl (Qt.load (by kernel_rfl) rfl (map_at _ _ _ (by omega))) ?_ | refine LW.q rfl (Qt.load (by kernel_rfl) rfl (flat_cell0 _ _ _ (by intros; rfl) _ (by omega) (by rfl))) ?_ | refine LW.q rfl (Qt.load (by kernel_rfl) rfl (flat_cell _ _ _ (by intros; rfl) _ _ (by omega) (by rfl))) ?_ | refine LW.q rfl (Qt.load (by kernel_rfl) rfl (bytes_at _ _ (by omega))) ?_
                refine LW.q rfl (Qt.fieldAddr (off := 4) (by kernel_rfl) rfl) ?_
                refine LW.q rfl (Qt.indexA 0 (len := 2) (e := 3) (sz := 1) (by kernel_rfl) rfl rfl rfl (by omega)) ?_
                first | refine LW.q rfl (Qt.load (by kernel_rfl) rfl rfl) ?_ | refine LW.q rfl (Qt.load (by kernel_rfl) rfl (map_at _ _ _ (by omega))) ?_ | refine LW.q rfl (Qt.load (by kernel_rfl) rfl (flat_cell0 _ _ _ (by intros; rfl) _ (by omega) (by rfl))) ?_ | refine LW.q rfl (Qt.load (by kernel_rfl) rfl (flat_cell _ _ _ (by intros; rfl) _ _ (by omega) (by rfl))) ?_ | refine LW.q rfl (Qt.load (by kernel_rfl) rfl (bytes_at _ _ (by omega))) ?_
                refine LW.q rfl (Qt.fieldAddr (off := 4) (by kernel_rfl) rfl) ?_
                refine LW.q rfl (Qt.indexA 1 (len := 2) (e := 3) (sz := 1) (by kernel_rfl) rfl rfl rfl (by omega)) ?_
                first | refine LW.q rfl (Qt.load (by kernel_rfl) rfl rfl) ?_ | refine LW.q rfl (Qt.load (by kernel_rfl) rfl (map_at _ _ _ (by omega))) ?_ | refine LW.q rfl (Qt.load (by kernel_rfl) rfl (flat_cell0 _ _ _ (by intros; rfl) _ (by omega) (by rfl))) ?_ | refine LW.q rfl (Qt.load (by kernel_rfl) rfl (flat_cell _ _ _ (by intros; rfl) _ _ (by omega) (by rfl))) ?_ | refine LW.q rfl (Qt.load (by kernel_rfl) rfl (bytes_at _ _ (by omega))) ?_
                refine LW.e rfl (Ef.call (Dk.crashF B bd (⟨Sc, []⟩ : DD) (.slice ka sc[k].keep.length kc) sc[k].keep sc[k].t0 sc[k].t1 hkv (by simp [DD.write])) Tryd.func37 rfl rfl rfl ?_)
                rintro _ _ ⟨rfl, rfl⟩
                try simp only [List.cons_append, List.nil_append]
                rw [hS5]
                refine LW.done ?_
                refine T.seq ?_
                refine T.region ?_
                first | refine LW.q rfl (Qt.loadAgg [_, _] (by kernel_rfl) rfl ⟨rfl, rfl, trivial⟩) ?_ | refine LW.q rfl (Qt.loadAgg [_, _] (by kernel_rfl) rfl (by exact rdl_flat _ _ _ (by intros; rfl) _ (by omega))) ?_
                refine LW.q rfl (Qt.fieldAddr (off := 3) (by kernel_rfl) rfl) ?_
                first | refine LW.q rfl (Qt.load (by kernel_rfl) rfl rfl) ?_ | refine LW.q rfl (Qt.load (by kernel_rfl) rfl (map_at _ _ _ (by omega))) ?_ | refine LW.q rfl (Qt.load (by kernel_rfl) rfl (flat_cell0 _ _ _ (by intros; rfl) _ (by omega) (by rfl))) ?_ | refine LW.q rfl (Qt.load (by kernel_rfl) rfl (flat_cell _ _ _ (by intros; rfl) _ _ (by omega) (by rfl))) ?_ | refine LW.q rfl (Qt.load (by kernel_rfl) rfl (bytes_at _ _ (by omega))) ?_
                refine LW.q rfl (Qt.fieldAddr (off := 4) (by kernel_rfl) rfl) ?_
                refine LW.q rfl (Qt.indexA 0 (len := 2) (e := 3) (sz := 1) (by kernel_rfl) rfl rfl rfl (by omega)) ?_
                first | refine LW.q rfl (Qt.load (by kernel_rfl) rfl rfl) ?_ | refine LW.q rfl (Qt.load (by kernel_rfl) rfl (map_at _ _ _ (by omega))) ?_ | refine LW.q rfl (Qt.load (by kernel_rfl) rfl (flat_cell0 _ _ _ (by intros; rfl) _ (by omega) (by rfl))) ?_ | refine LW.q rfl (Qt.load (by kernel_rfl) rfl (flat_cell _ _ _ (by intros; rfl) _ _ (by omega) (by rfl))) ?_ | refine LW.q rfl (Qt.load (by kernel_rfl) rfl (bytes_at _ _ (by omega))) ?_
                refine LW.q rfl (Qt.fieldAddr (off := 4) (by kernel_rfl) rfl) ?_
                refine LW.q rfl (Qt.indexA 1 (len := 2) (e := 3) (sz := 1) (by kernel_rfl) rfl rfl rfl (by omega)) ?_
                first | refine LW.q rfl (Qt.load (by kernel_rfl) rfl rfl) ?_ | refine LW.q rfl (Qt.load (by kernel_rfl) rfl (map_at _ _ _ (by omega))) ?_ | refine LW.q rfl (Qt.load (by kernel_rfl) rfl (flat_cell0 _ _ _ (by intros; rfl) _ (by omega) (by rfl))) ?_ | refine LW.q rfl (Qt.load (by kernel_rfl) rfl (flat_cell _ _ _ (by intros; rfl) _ _ (by omega) (by rfl))) ?_ | refine LW.q rfl (Qt.load (by kernel_rfl) rfl (bytes_at _ _ (by omega))) ?_
                refine LW.e rfl (Ef.call (Rf.crash B p q a c 6 0 false (.slice ka sc[k].keep.length kc) sc[k].keep sc[k].t0 sc[k].t1 Sc [] ho (by omega) hkv) Tryd.func38 rfl rfl rfl ?_)
                rintro _ _ ⟨p2, a2, rfl, rfl⟩
                try simp only [List.cons_append, List.nil_append]
                rw [oce]
                refine LW.e0 rfl (Ef.store [_, _] (by kernel_rfl) rfl rfl rfl rfl (by simp) ?_)
                try simp only [splice, List.length_cons, List.length_nil, List.drop_succ_cons, List.cons_append, List.take_succ_cons, List.take_zero, List.drop_zero, List.nil_append, List.append_nil]
                refine LW.done ?_
                refine T.seq ?_
                refine T.region ?_
                refine LW.q rfl (Qt.move rfl) ?_
                refine LW.q rfl (Qt.move rfl) ?_
                refine LW.q rfl (Qt.move rfl) ?_
                refine LW.e rfl (Ef.call (Wl.openE B bd ⟨S5, []⟩ first count (by omega) (by show first + count ≤ S5.length; omega) (by simp) oc) Tryd.func25 rfl rfl rfl ?_)
                rintro _ _ ⟨gl2, q3, cq3, R3, kk, ss, u1, u2, u3, rfl, rfl⟩
                try simp only [List.cons_append, List.nil_append]
                obtain ⟨al, hal⟩ : ∃ al, allD ⟨S5, []⟩ first count = al := ⟨_, rfl⟩
                have hall : al.length = count * 256 := by rw [← hal]; exact allD_length oc count (by show first + count ≤ S5.length; omega)
                rw [hal] at u1 u3
                rw [hal]
                obtain ⟨W6, hW6⟩ : ∃ W6, (⟨first, count, al.take kk, ss, kk⟩ : Wl) = W6 := ⟨_, rfl⟩
                have y1 := wipe_ok (W := W6) (al := al) (k := count - kk / 256) (n := kk / 256) oc (by rw [← hW6]; show first + _ ≤ S5.length; omega)
                have y2 : (wipeD W6 al ⟨S5, []⟩ (kk / 256) (count - kk / 256)).sync.Ok := y1.1.sy
                have y3 : (wipeD W6 al ⟨S5, []⟩ (kk / 256) (count - kk / 256)).sync.secs.length = 6 := by rw [DD.sync_len y1.1, y1.2]; exact ocl6
                have z1 : W6.first = first := by rw [← hW6]
                have z2 : W6.count = count := by rw [← hW6]
                have z3 : W6.st.length = kk := by rw [← hW6]; exact u3
                have z4 : W6.dur = kk := by rw [← hW6]
                obtain ⟨S6, hS6⟩ : ∃ S6, (wipeD W6 al ⟨S5, []⟩ (kk / 256) (count - kk / 256)).sync = ⟨S6, []⟩ := ⟨_, rfl⟩
                rw [hS6] at y2 y3
                rw [hW6, hS6]
                have hRn : R3.length < 2 ^ 40 := by have := congrArg (fun x => x.2.2.length) u1; obtain ⟨ds, _, k2, _, k4⟩ := scan_back (count * 256 + 1) 0 0 al (Nat.zero_le _); rw [k2] at this; simp only [length_logR, List.length_map] at this; have h5 := length_logB_le 0 0 ds; omega
                refine LW.q rfl (Qt.move rfl) ?_
                refine LW.q rfl (Qt.extract rfl rfl) ?_
                refine LW.q rfl (Qt.extract rfl rfl) ?_
                refine LW.q rfl (Qt.extract rfl rfl) ?_
                refine LW.q rfl (Qt.assign rfl) ?_
                refine LW.q rfl (Qt.assign rfl) ?_
                refine LW.q rfl (Qt.assign rfl) ?_
                refine LW.done ?_
                refine T.seq ?_
                refine T.region ?_
                first | refine LW.q rfl (Qt.loadAgg [_, _] (by kernel_rfl) rfl ⟨rfl, rfl, trivial⟩) ?_ | refine LW.q rfl (Qt.loadAgg [_, _] (by kernel_rfl) rfl (by exact rdl_flat _ _ _ (by intros; rfl) _ (by omega))) ?_
                refine LW.q rfl (Qt.move rfl) ?_
                refine LW.q rfl (Qt.move rfl) ?_
                refine LW.e rfl (Ef.call (Rl.open B ⟨S5, []⟩ p2 none a2 0 6 0 ocl6 rfl oc (by omega) first count _ _ rfl rfl (by omega) (by omega)) Tryd.func29 rfl rfl rfl ?_)
                rintro _ _ ⟨p4, a4, kk2, ss2, R4, q4, cq4, x1, rfl, rfl⟩
                try simp only [List.cons_append, List.nil_append]
                rw [hal, u1] at x1
                injection x1 with x1 x2
                injection x2 with x2 x3
                subst x1
                subst x2
                subst x3
                rw [hal, List.length_map, hW6, hS6]
                refine LW.q rfl (Qt.move rfl) ?_
                refine LW.q rfl (Qt.extract rfl rfl) ?_
                refine LW.q rfl (Qt.extract rfl rfl) ?_
                refine LW.q rfl (Qt.extract rfl rfl) ?_
                refine LW.q rfl (Qt.extract rfl rfl) ?_
                refine LW.e0 rfl (Ef.store [_, _] (by kernel_rfl) rfl rfl rfl rfl (by simp) ?_)
                try simp only [splice, List.length_cons, List.length_nil, List.drop_succ_cons, List.cons_append, List.take_succ_cons, List.take_zero, List.drop_zero, List.nil_append, List.append_nil]
                refine LW.e0 rfl (Ef.store [_, _, _, _, _] (by kernel_rfl) rfl rfl rfl rfl (by simp) ?_)
                try simp only [splice, List.length_cons, List.length_nil, List.drop_succ_cons, List.cons_append, List.take_succ_cons, List.take_zero, List.drop_zero, List.nil_append, List.append_nil]
                refine LW.q rfl (Qt.assign rfl) ?_
                refine LW.done ?_
                refine T.seq ?_
                refine T.region ?_
                refine LW.q rfl (Qt.move rfl) ?_
                first | refine LW.q rfl (Qt.eqlNil (by kernel_rfl) rfl rfl) ?_ | refine LW.q rfl (Qt.eqlNN (by kernel_rfl) rfl rfl) ?_
                refine LW.q rfl (Qt.move rfl) ?_
                first | refine LW.gF (t := 231) rfl rfl ?_ | refine LW.gF (t := 231) rfl (decide_eq_false (by omega)) ?_ | refine LW.gF (t := 231) rfl (by omega) ?_
                refine LW.q rfl (Qt.move rfl) ?_
                refine LW.q rfl (Qt.neq rfl rfl) ?_
                refine LW.q rfl (Qt.pick rfl rfl) ?_
                refine LW.q rfl (Qt.move rfl) ?_
                first | refine LW.gF (t := 235) rfl rfl ?_ | refine LW.gF (t := 235) rfl (decide_eq_false (by omega)) ?_ | refine LW.gF (t := 235) rfl (by omega) ?_
                refine LW.q rfl (Qt.move rfl) ?_
                refine LW.q rfl (Qt.move rfl) ?_
                refine LW.e rfl (Ef.call (Rl.records B R3 (R3.map fun x => (x.mark, x.r.b)) q3 q4 cq3 cq4 R3.length rfl hRn rfl) Tryd.func30 rfl rfl rfl ?_)
                rintro _ _ ⟨rfl, rfl⟩
                try simp only [List.cons_append, List.nil_append]
                first | refine LW.q rfl (Qt.notP rfl) ?_ | refine LW.q rfl (Qt.notB rfl) ?_
                refine LW.q rfl (Qt.pick rfl rfl) ?_
                refine LW.done ?_
                first | refine T.condF rfl ?_ | refine T.condPF rfl (by omega) ?_ | refine T.condBF rfl (by omega) ?_
                refine T.skip ?_
                exact ⟨_, ⟨_, W6, S6, gl2, p4, none, a4, 0, ⟨y2, y3, z1, z2, by omega, by omega⟩, (updS rfl (updS rfl (updS rfl (updS rfl (updS rfl (updS rfl (updS rfl (updS rfl (updS rfl rfl))))))))), rfl⟩, Sub.any⟩
              · skip
                refine T.region ?_
                refine LW.q rfl (Qt.eql rfl rfl) ?_
                refine LW.q rfl (Qt.assign rfl) ?_
                refine LW.done ?_
                refine T.condP rfl (fun k4 => ?_) (fun k4 => ?_)
                · skip
                  refine T.seq ?_
                  refine T.seq ?_
                  refine T.region ?_
                  refine LW.q rfl (Qt.fieldAddr0 (by kernel_rfl) rfl) ?_
                  first | refine LW.q rfl (Qt.load (by kernel_rfl) rfl rfl) ?_ | refine LW.q rfl (Qt.load (by kernel_rfl) rfl (map_at _ _ _ (by omega))) ?_ | refine LW.q rfl (Qt.load (by kernel_rfl) rfl (flat_cell0 _ _ _ (by intros; rfl) _ (by omega) (by rfl))) ?_ | refine LW.q rfl (Qt.load (by kernel_rfl) rfl (flat_cell _ _ _ (by intros; rfl) _ _ (by omega) (by rfl))) ?_ | refine LW.q rfl (Qt.load (by kernel_rfl) rfl (bytes_at _ _ (by omega))) ?_
                  refine LW.q rfl (Qt.eql rfl rfl) ?_
                  refine LW.q rfl (Qt.move rfl) ?_
                  first | refine LW.gT (t := 159) rfl rfl ?_ | refine LW.gT (t := 159) rfl (decide_eq_true (by omega)) ?_ | refine LW.gT (t := 159) rfl (by omega) ?_
                  refine LW.q rfl (Qt.fieldAddr (off := 2) (by kernel_rfl) rfl) ?_
                  first | refine LW.q rfl (Qt.load (by kernel_rfl) rfl rfl) ?_ | refine LW.q rfl (Qt.load (by kernel_rfl) rfl (map_at _ _ _ (by omega))) ?_ | refine LW.q rfl (Qt.load (by kernel_rfl) rfl (flat_cell0 _ _ _ (by intros; rfl) _ (by omega) (by rfl))) ?_ | refine LW.q rfl (Qt.load (by kernel_rfl) rfl (flat_cell _ _ _ (by intros; rfl) _ _ (by omega) (by rfl))) ?_ | refine LW.q rfl (Qt.load (by kernel_rfl) rfl (bytes_at _ _ (by omega))) ?_
                  refine LW.q rfl (Qt.geq rfl rfl) ?_
                  refine LW.q rfl (Qt.pick rfl rfl) ?_
                  refine LW.q rfl (Qt.move rfl) ?_
                  refine LW.split (t := 164) rfl (fun m0 => ?_) (fun m0 => ?_)
                  · skip
                    try replace m0 := of_decide_eq_true m0
                    refine LW.q rfl (Qt.fieldAddr (off := 2) (by kernel_rfl) rfl) ?_
                    first | refine LW.q rfl (Qt.load (by kernel_rfl) rfl rfl) ?_ | refine LW.q rfl (Qt.load (by kernel_rfl) rfl (map_at _ _ _ (by omega))) ?_ | refine LW.q rfl (Qt.load (by kernel_rfl) rfl (flat_cell0 _ _ _ (by intros; rfl) _ (by omega) (by rfl))) ?_ | refine LW.q rfl (Qt.load (by kernel_rfl) rfl (flat_cell _ _ _ (by intros; rfl) _ _ (by omega) (by rfl))) ?_ | refine LW.q rfl (Qt.load (by kernel_rfl) rfl (bytes_at _ _ (by omega))) ?_
                    refine LW.q rfl (Qt.move rfl) ?_
                    refine LW.q rfl (Qt.lss rfl rfl) ?_
                    refine LW.q rfl (Qt.pick rfl rfl) ?_
                    refine LW.done ?_
                    refine T.condP rfl (fun m1 => ?_) (fun m1 => ?_)
                    · skip
                      obtain ⟨mk, hmk⟩ : ∃ mk : Nat, sc[k].mark = mk := ⟨sc[k].mark.toNat, by omega⟩
                      refine T.seq ?_
                      refine T.drawBl 9 none (by kernel_rfl) (Nat.le_of_ble_eq_true rfl) (by kernel_rfl) ?_
                      refine RW.q 0 rfl rfl (by kernel_rfl) Sub.any (Qt.move rfl) ?_
                      refine RW.q 1 rfl rfl (by kernel_rfl) Sub.any (Qt.move rfl) ?_
                      refine RW.q 2 rfl rfl (by kernel_rfl) Sub.any (Qt.fieldAddr (off := 2) (by kernel_rfl) rfl) ?_
                      first | refine RW.q 3 rfl rfl (by kernel_rfl) Sub.any (Qt.load (by kernel_rfl) rfl rfl) ?_ | refine RW.q 3 rfl rfl (by kernel_rfl) Sub.any (Qt.load (by kernel_rfl) rfl (map_at _ _ _ (by omega))) ?_ | refine RW.q 3 rfl rfl (by kernel_rfl) Sub.any (Qt.load (by kernel_rfl) rfl (flat_cell0 _ _ _ (by intros; rfl) _ (by omega) (by rfl))) ?_ | refine RW.q 3 rfl rfl (by kernel_rfl) Sub.any (Qt.load (by kernel_rfl) rfl (flat_cell _ _ _ (by intros; rfl) _ _ (by omega) (by rfl))) ?_ | refine RW.q 3 rfl rfl (by kernel_rfl) Sub.any (Qt.load (by kernel_rfl) rfl (bytes_at _ _ (by omega))) ?_
                      refine RW.q 4 rfl rfl (by kernel_rfl) Sub.any (Qt.add rfl rfl (wr64 (by omega) (by omega))) ?_
                      refine RW.q 5 rfl rfl (by kernel_rfl) Sub.any (Qt.fieldAddr (off := 1) (by kernel_rfl) rfl) ?_
                      first | refine RW.q 6 rfl rfl (by kernel_rfl) Sub.any (Qt.load (by kernel_rfl) rfl rfl) ?_ | refine RW.q 6 rfl rfl (by kernel_rfl) Sub.any (Qt.load (by kernel_rfl) rfl (map_at _ _ _ (by omega))) ?_ | refine RW.q 6 rfl rfl (by kernel_rfl) Sub.any (Qt.load (by kernel_rfl) rfl (flat_cell0 _ _ _ (by intros; rfl) _ (by omega) (by rfl))) ?_ | refine RW.q 6 rfl rfl (by kernel_rfl) Sub.any (Qt.load (by kernel_rfl) rfl (flat_cell _ _ _ (by intros; rfl) _ _ (by omega) (by rfl))) ?_ | refine RW.q 6 rfl rfl (by kernel_rfl) Sub.any (Qt.load (by kernel_rfl) rfl (bytes_at _ _ (by omega))) ?_
                      refine RW.one 7 (by kernel_rfl) ?_
                      refine RO.eS rfl rfl (Ef.call (Wl.sector B (.slice da sc[k].data.length dc) sc[k].data hdv (by omega)) Tryd.func35 rfl rfl rfl ?_)
                      rintro _ _ ⟨gs, rfl, rfl⟩
                      try simp only [List.cons_append, List.nil_append]
                      refine ⟨Sub.any, ?_⟩
                      refine RW.one 8 (by kernel_rfl) ?_
                      refine RO.eS rfl rfl (Ef.call (Dk.writeF B bd ⟨Sc, []⟩ (rB (.slice (some ⟨gs, 0, none⟩) 256 256) 256 (sectOf sc[k].data)) gs 0 256 (first + mk) _ (by omega) (sectOf sc[k].data) (row_bytes (p := none)) (by show first + mk < Sc.length; omega) (length_sectOf _) (by simp)) Tryd.func34 rfl rfl rfl ?_)
                      rintro _ _ ⟨rfl, rfl⟩
                      try simp only [List.cons_append, List.nil_append]
                      refine ⟨Sub.any, ?_⟩
                      refine RW.done (by rfl) ?_
                      simp only [List.drop_succ_cons, List.drop_zero, List.drop_nil]
                      refine LW.done ?_
                      refine T.drawBl 14 (some g9) (by kernel_rfl) (Nat.le_of_ble_eq_true rfl) (by kernel_rfl) ?_
                      refine RW.q 1 rfl rfl (by kernel_rfl) Sub.any (Qt.move rfl) ?_
                      refine RW.q 2 rfl rfl (by kernel_rfl) Sub.any (Qt.fieldAddr (off := 2) (by kernel_rfl) rfl) ?_
                      first | refine RW.q 3 rfl rfl (by kernel_rfl) Sub.any (Qt.load (by kernel_rfl) rfl rfl) ?_ | refine RW.q 3 rfl rfl (by kernel_rfl) Sub.any (Qt.load (by kernel_rfl) rfl (map_at _ _ _ (by omega))) ?_ | refine RW.q 3 rfl rfl (by kernel_rfl) Sub.any (Qt.load (by kernel_rfl) rfl (flat_cell0 _ _ _ (by intros; rfl) _ (by omega) (by rfl))) ?_ | refine RW.q 3 rfl rfl (by kernel_rfl) Sub.any (Qt.load (by kernel_rfl) rfl (flat_cell _ _ _ (by intros; rfl) _ _ (by omega) (by rfl))) ?_ | refine RW.q 3 rfl rfl (by kernel_rfl) Sub.any (Qt.load (by kernel_rfl) rfl (bytes_at _ _ (by omega))) ?_
                      refine RW.q 4 rfl rfl (by kernel_rfl) Sub.any (Qt.add rfl rfl (wr64 (by omega) (by omega))) ?_
                      refine RW.q 5 rfl rfl (by kernel_rfl) Sub.any (Qt.fieldAddr (off := 1) (by kernel_rfl) rfl) ?_
                      first | refine RW.q 6 rfl rfl (by kernel_rfl) Sub.any (Qt.load (by kernel_rfl) rfl rfl) ?_ | refine RW.q 6 rfl rfl (by kernel_rfl) Sub.any (Qt.load (by kernel_rfl) rfl (map_at _ _ _ (by omega))) ?_ | refine RW.q 6 rfl rfl (by kernel_rfl) Sub.any (Qt.load (by kernel_rfl) rfl (flat_cell0 _ _ _ (by intros; rfl) _ (by omega) (by rfl))) ?_ | refine RW.q 6 rfl rfl (by kernel_rfl) Sub.any (Qt.load (by kernel_rfl) rfl (flat_cell _ _ _ (by intros; rfl) _ _ (by omega) (by rfl))) ?_ | refine RW.q 6 rfl rfl (by kernel_rfl) Sub.any (Qt.load (by kernel_rfl) rfl (bytes_at _ _ (by omega))) ?_
                      refine RW.all [0, 7] (by kernel_rfl) (List.forall_mem_cons.2 ⟨?_, List.forall_mem_cons.2 ⟨?_, List.forall_mem_nil _⟩⟩)
                      · skip
                        first | refine RO.eS rfl rfl (Ef.qt (Qt.loadAgg [_, _] (by kernel_rfl) rfl ⟨rfl, rfl, trivial⟩) ?_) | refine RO.eS rfl rfl (Ef.qt (Qt.loadAgg [_, _] (by kernel_rfl) rfl (by exact rdl_flat _ _ _ (by intros; rfl) _ (by omega))) ?_)
                        refine ⟨Sub.any, ?_⟩
                        refine RW.one 7 (by kernel_rfl) ?_
                        refine RO.eS rfl rfl (Ef.call (Wl.sector B (.slice da sc[k].data.length dc) sc[k].data hdv (by omega)) Tryd.func35 rfl rfl rfl ?_)
                        rintro _ _ ⟨gs2, rfl, rfl⟩
                        try simp only [List.cons_append, List.nil_append]
                        refine ⟨Sub.any, ?_⟩
                        refine RW.one 8 (by kernel_rfl) ?_
                        first | refine RO.eS rfl rfl (Ef.qt (Qt.str (sectOf sc[k].data) (by kernel_rfl) (by kernel_rfl) rfl (fun w ho => (RdV.rB (p := some ⟨gs2, 0, none⟩) (c := 256) (length_sectOf _) (fun _ => ⟨_, rfl⟩)).reads w (ho.map Sub.any))) ?_)
                        refine ⟨Sub.any, ?_⟩
                        refine RW.one 9 (by kernel_rfl) ?_
                        refine RO.eS rfl rfl (Ef.call (Rf.put B p q a c 6 0 _ (first + mk) (by omega) (sectOf sc[k].data) Sc [] (by omega) (by omega) (by omega) (length_sectOf _)) Tryd.func36 rfl rfl rfl ?_)
                        rintro _ _ ⟨p1, a1, q1, c1, rfl, rfl⟩
                        try simp only [List.cons_append, List.nil_append]
                        refine ⟨Sub.any, ?_⟩
                        refine RW.q 10 rfl rfl (by kernel_rfl) Sub.any (Qt.move rfl) ?_
                        refine RW.q 11 rfl rfl (by kernel_rfl) Sub.any (Qt.extract rfl rfl) ?_
                        refine RW.q 12 rfl rfl (by kernel_rfl) Sub.any (Qt.extract rfl rfl) ?_
                        refine RW.one 13 (by kernel_rfl) ?_
                        refine RO.eS0 rfl rfl (Ef.store [_, _] (by kernel_rfl) rfl rfl rfl rfl (by simp) ?_)
                        try simp only [splice, List.length_cons, List.length_nil, List.drop_succ_cons, List.cons_append, List.take_succ_cons, List.take_zero, List.drop_zero, List.nil_append, List.append_nil]
                        refine ⟨Sub.any, ?_⟩
                        refine RW.done (by rfl) ?_
                        simp only [List.drop_succ_cons, List.drop_zero, List.drop_nil]
                        refine LW.done ?_
                        refine T.seq ?_
                        refine T.region ?_
                        refine LW.q rfl (Qt.move rfl) ?_
                        refine LW.q rfl (Qt.fieldAddr (off := 3) (by kernel_rfl) rfl) ?_
                        first | refine LW.q rfl (Qt.load (by kernel_rfl) rfl rfl) ?_ | refine LW.q rfl (Qt.load (by kernel_rfl) rfl (map_at _ _ _ (by omega))) ?_ | refine LW.q rfl (Qt.load (by kernel_rfl) rfl (flat_cell0 _ _ _ (by intros; rfl) _ (by omega) (by rfl))) ?_ | refine LW.q rfl (Qt.load (by kernel_rfl) rfl (flat_cell _ _ _ (by intros; rfl) _ _ (by omega) (by rfl))) ?_ | refine LW.q rfl (Qt.load (by kernel_rfl) rfl (bytes_at _ _ (by omega))) ?_
                        refine LW.q rfl (Qt.fieldAddr (off := 4) (by kernel_rfl) rfl) ?_
                        refine LW.q rfl (Qt.indexA 0 (len := 2) (e := 3) (sz := 1) (by kernel_rfl) rfl rfl rfl (by omega)) ?_
                        first | refine LW.q rfl (Qt.load (by kernel_rfl) rfl rfl) ?_ | refine LW.q rfl (Qt.load (by kernel_rfl) rfl (map_at _ _ _ (by omega))) ?_ | refine LW.q rfl (Qt.load (by kernel_rfl) rfl (flat_cell0 _ _ _ (by intros; rfl) _ (by omega) (by rfl))) ?_ | refine LW.q rfl (Qt.load (by kernel_rfl) rfl (flat_cell _ _ _ (by intros; rfl) _ _ (by omega) (by rfl))) ?_ | refine LW.q rfl (Qt.load (by kernel_rfl) rfl (bytes_at _ _ (by omega))) ?_
                        refine LW.q rfl (Qt.fieldAddr (off := 4) (by kernel_rfl) rfl) ?_
                        refine LW.q rfl (Qt.indexA 1 (len := 2) (e := 3) (sz := 1) (by kernel_rfl) rfl rfl rfl (by omega)) ?_
                        first | refine LW.q rfl (Qt.load (by kernel_rfl) rfl rfl) ?_ | refine LW.q rfl (Qt.load (by kernel_rfl) rfl (map_at _ _ _ (by omega))) ?_ | refine LW.q rfl (Qt.load (by kernel_rfl) rfl (flat_cell0 _ _ _ (by intros; rfl) _ (by omega) (by rfl))) ?_ | refine LW.q rfl (Qt.load (by kernel_rfl) rfl (flat_cell _ _ _ (by intros; rfl) _ _ (by omega) (by rfl))) ?_ | refine LW.q rfl (Qt.load (by kernel_rfl) rfl (bytes_at _ _ (by omega))) ?_
                        have ow := ho.wr2 (first + mk) (sectOf sc[k].data) (by show first + mk < Sc.length; omega) (length_sectOf _)
                        have oc := ow.cr sc[k].keep sc[k].t0 sc[k].t1
                        have ocl := DD.crash_len ow sc[k].keep sc[k].t0 sc[k].t1
                        obtain ⟨S5, hS5⟩ : ∃ S5, (DD.write ⟨Sc, []⟩ (first + mk) (sectOf sc[k].data)).crash sc[k].keep sc[k].t0 sc[k].t1 = ⟨S5, []⟩ := ⟨_, rfl⟩
                        have oce : DD.lays ⟨Sc, [(first + mk, sectOf sc[k].data)]⟩ (fun i => some (rAmt false sc[k].keep sc[k].t0 sc[k].t1 i)) (0 + 1) = S5 := by rw [lays_amt _ _ _ _ _ (by simp)]; exact congrArg DD.secs hS5
                        rw [hS5] at oc ocl
                        have ocl6 : S5.length = 6 := ocl.trans hsl
                        refine LW.e rfl (Ef.call (Dk.crashF B bd (DD.write ⟨Sc, []⟩ (first + mk) (sectOf sc[k].data)) (.slice ka sc[k].keep.length kc) sc[k].keep sc[k].t0 sc[k].t1 hkv (by simp [DD.write])) Tryd.func37 rfl rfl rfl ?_)
                        rintro _ _ ⟨rfl, rfl⟩
                        try simp only [List.cons_append, List.nil_append]
                        rw [hS5]
                        refine LW.done ?_
                        refine T.seq ?_
                        refine T.region ?_
                        first | refine LW.q rfl (Qt.loadAgg [_, _] (by kernel_rfl) rfl ⟨rfl, rfl, trivial⟩) ?_ | refine LW.q rfl (Qt.loadAgg [_, _] (by kernel_rfl) rfl (by exact rdl_flat _ _ _ (by intros; rfl) _ (by omega))) ?_
                        refine LW.q rfl (Qt.fieldAddr (off := 3) (by kernel_rfl) rfl) ?_
                        first | refine LW.q rfl (Qt.load (by kernel_rfl) rfl rfl) ?_ | refine LW.q rfl (Qt.load (by kernel_rfl) rfl (map_at _ _ _ (by omega))) ?_ | refine LW.q rfl (Qt.load (by kernel_rfl) rfl (flat_cell0 _ _ _ (by intros; rfl) _ (by omega) (by rfl))) ?_ | refine LW.q rfl (Qt.load (by kernel_rfl) rfl (flat_cell _ _ _ (by intros; rfl) _ _ (by omega) (by rfl))) ?_ | refine LW.q rfl (Qt.load (by kernel_rfl) rfl (bytes_at _ _ (by omega))) ?_
                        refine LW.q rfl (Qt.fieldAddr (off := 4) (by kernel_rfl) rfl) ?_
                        refine LW.q rfl (Qt.indexA 0 (len := 2) (e := 3) (sz := 1) (by kernel_rfl) rfl rfl rfl (by omega)) ?_
                        first | refine LW.q rfl (Qt.load (by kernel_rfl) rfl rfl) ?_ | refine LW.q rfl (Qt.load (by kernel_rfl) rfl (map_at _ _ _ (by omega))) ?_ | refine LW.q rfl (Qt.load (by kernel_rfl) rfl (flat_cell0 _ _ _ (by intros; rfl) _ (by omega) (by rfl))) ?_ | refine LW.q rfl (Qt.load (by kernel_rfl) rfl (flat_cell _ _ _ (by intros; rfl) _ _ (by omega) (by rfl))) ?_ | refine LW.q rfl (Qt.load (by kernel_rfl) rfl (bytes_at _ _ (by omega))) ?_
                        refine LW.q rfl (Qt.fieldAddr (off := 4) (by kernel_rfl) rfl) ?_
                        refine LW.q rfl (Qt.indexA 1 (len := 2) (e := 3) (sz := 1) (by kernel_rfl) rfl rfl rfl (by omega)) ?_
                        first | refine LW.q rfl (Qt.load (by kernel_rfl) rfl rfl) ?_ | refine LW.q rfl (Qt.load (by kernel_rfl) rfl (map_at _ _ _ (by omega))) ?_ | refine LW.q rfl (Qt.load (by kernel_rfl) rfl (flat_cell0 _ _ _ (by intros; rfl) _ (by omega) (by rfl))) ?_ | refine LW.q rfl (Qt.load (by kernel_rfl) rfl (flat_cell _ _ _ (by intros; rfl) _ _ (by omega) (by rfl))) ?_ | refine LW.q rfl (Qt.load (by kernel_rfl) rfl (bytes_at _ _ (by omega))) ?_
                        refine LW.e rfl (Ef.call (Rf.crash B p1 q1 a1 c1 6 (0 + 1) false (.slice ka sc[k].keep.length kc) sc[k].keep sc[k].t0 sc[k].t1 Sc [(first + mk, sectOf sc[k].data)] ow (by omega) hkv) Tryd.func38 rfl rfl rfl ?_)
                        rintro _ _ ⟨p2, a2, rfl, rfl⟩
                        try simp only [List.cons_append, List.nil_append]
                        rw [oce]
                        refine LW.e0 rfl (Ef.store [_, _] (by kernel_rfl) rfl rfl rfl rfl (by simp) ?_)
                        try simp only [splice, List.length_cons, List.length_nil, List.drop_succ_cons, List.cons_append, List.take_succ_cons, List.take_zero, List.drop_zero, List.nil_append, List.append_nil]
                        refine LW.done ?_
                        refine T.seq ?_
                        refine T.region ?_
                        refine LW.q rfl (Qt.move rfl) ?_
                        refine LW.q rfl (Qt.move rfl) ?_
                        refine LW.q rfl (Qt.move rfl) ?_
                        refine LW.e rfl (Ef.call (Wl.openE B bd ⟨S5, []⟩ first count (by omega) (by show first + count ≤ S5.length; omega) (by simp) oc) Tryd.func25 rfl rfl rfl ?_)
                        rintro _ _ ⟨gl2, q3, cq3, R3, kk, ss, u1, u2, u3, rfl, rfl⟩
                        try simp only [List.cons_append, List.nil_append]
                        obtain ⟨al, hal⟩ : ∃ al, allD ⟨S5, []⟩ first count = al := ⟨_, rfl⟩
                        have hall : al.length = count * 256 := by rw [← hal]; exact allD_length oc count (by show first + count ≤ S5.length; omega)
                        rw [hal] at u1 u3
                        rw [hal]
                        obtain ⟨W6, hW6⟩ : ∃ W6, (⟨first, count, al.take kk, ss, kk⟩ : Wl) = W6 := ⟨_, rfl⟩
                        have y1 := wipe_ok (W := W6) (al := al) (k := count - kk / 256) (n := kk / 256) oc (by rw [← hW6]; show first + _ ≤ S5.length; omega)
                        have y2 : (wipeD W6 al ⟨S5, []⟩ (kk / 256) (count - kk / 256)).sync.Ok := y1.1.sy
                        have y3 : (wipeD W6 al ⟨S5, []⟩ (kk / 256) (count - kk / 256)).sync.secs.length = 6 := by rw [DD.sync_len y1.1, y1.2]; exact ocl6
                        have z1 : W6.first = first := by rw [← hW6]
                        have z2 : W6.count = count := by rw [← hW6]
                        have z3 : W6.st.length = kk := by rw [← hW6]; exact u3
                        have z4 : W6.dur = kk := by rw [← hW6]
                        obtain ⟨S6, hS6⟩ : ∃ S6, (wipeD W6 al ⟨S5, []⟩ (kk / 256) (count - kk / 256)).sync = ⟨S6, []⟩ := ⟨_, rfl⟩
                        rw [hS6] at y2 y3
                        rw [hW6, hS6]
                        have hRn : R3.length < 2 ^ 40 := by have := congrArg (fun x => x.2.2.length) u1; obtain ⟨ds, _, k2, _, k4⟩ := scan_back (count * 256 + 1) 0 0 al (Nat.zero_le _); rw [k2] at this; simp only [length_logR, List.length_map] at this; have h5 := length_logB_le 0 0 ds; omega
                        refine LW.q rfl (Qt.move rfl) ?_
                        refine LW.q rfl (Qt.extract rfl rfl) ?_
                        refine LW.q rfl (Qt.extract rfl rfl) ?_
                        refine LW.q rfl (Qt.extract rfl rfl) ?_
                        refine LW.q rfl (Qt.assign rfl) ?_
                        refine LW.q rfl (Qt.assign rfl) ?_
                        refine LW.q rfl (Qt.assign rfl) ?_
                        refine LW.done ?_
                        refine T.seq ?_
                        refine T.region ?_
                        first | refine LW.q rfl (Qt.loadAgg [_, _] (by kernel_rfl) rfl ⟨rfl, rfl, trivial⟩) ?_ | refine LW.q rfl (Qt.loadAgg [_, _] (by kernel_rfl) rfl (by exact rdl_flat _ _ _ (by intros; rfl) _ (by omega))) ?_
                        refine LW.q rfl (Qt.move rfl) ?_
                        refine LW.q rfl (Qt.move rfl) ?_
                        refine LW.e rfl (Ef.call (Rl.open B ⟨S5, []⟩ p2 none a2 0 6 0 ocl6 rfl oc (by omega) first count _ _ rfl rfl (by omega) (by omega)) Tryd.func29 rfl rfl rfl ?_)
                        rintro _ _ ⟨p4, a4, kk2, ss2, R4, q4, cq4, x1, rfl, rfl⟩
                        try simp only [List.cons_append, List.nil_append]
                        rw [hal, u1] at x1
                        injection x1 with x1 x2
                        injection x2 with x2 x3
                        subst x1
                        subst x2
                        subst x3
                        rw [hal, List.length_map, hW6, hS6]
                        refine LW.q rfl (Qt.move rfl) ?_
                        refine LW.q rfl (Qt.extract rfl rfl) ?_
                        refine LW.q rfl (Qt.extract rfl rfl) ?_
                        refine LW.q rfl (Qt.extract rfl rfl) ?_
                        refine LW.q rfl (Qt.extract rfl rfl) ?_
                        refine LW.e0 rfl (Ef.store [_, _] (by kernel_rfl) rfl rfl rfl rfl (by simp) ?_)
                        try simp only [splice, List.length_cons, List.length_nil, List.drop_succ_cons, List.cons_append, List.take_succ_cons, List.take_zero, List.drop_zero, List.nil_append, List.append_nil]
                        refine LW.e0 rfl (Ef.store [_, _, _, _, _] (by kernel_rfl) rfl rfl rfl rfl (by simp) ?_)
                        try simp only [splice, List.length_cons, List.length_nil, List.drop_succ_cons, List.cons_append, List.take_succ_cons, List.take_zero, List.drop_zero, List.nil_append, List.append_nil]
                        refine LW.q rfl (Qt.assign rfl) ?_
                        refine LW.done ?_
                        refine T.seq ?_
                        refine T.region ?_
                        refine LW.q rfl (Qt.move rfl) ?_
                        first | refine LW.q rfl (Qt.eqlNil (by kernel_rfl) rfl rfl) ?_ | refine LW.q rfl (Qt.eqlNN (by kernel_rfl) rfl rfl) ?_
                        refine LW.q rfl (Qt.move rfl) ?_
                        first | refine LW.gF (t := 231) rfl rfl ?_ | refine LW.gF (t := 231) rfl (decide_eq_false (by omega)) ?_ | refine LW.gF (t := 231) rfl (by omega) ?_
                        refine LW.q rfl (Qt.move rfl) ?_
                        refine LW.q rfl (Qt.neq rfl rfl) ?_
                        refine LW.q rfl (Qt.pick rfl rfl) ?_
                        refine LW.q rfl (Qt.move rfl) ?_
                        first | refine LW.gF (t := 235) rfl rfl ?_ | refine LW.gF (t := 235) rfl (decide_eq_false (by omega)) ?_ | refine LW.gF (t := 235) rfl (by omega) ?_
                        refine LW.q rfl (Qt.move rfl) ?_
                        refine LW.q rfl (Qt.move rfl) ?_
                        refine LW.e rfl (Ef.call (Rl.records B R3 (R3.map fun x => (x.mark, x.r.b)) q3 q4 cq3 cq4 R3.length rfl hRn rfl) Tryd.func30 rfl rfl rfl ?_)
                        rintro _ _ ⟨rfl, rfl⟩
                        try simp only [List.cons_append, List.nil_append]
                        first | refine LW.q rfl (Qt.notP rfl) ?_ | refine LW.q rfl (Qt.notB rfl) ?_
                        refine LW.q rfl (Qt.pick rfl rfl) ?_
                        refine LW.done ?_
                        first | refine T.condF rfl ?_ | refine T.condPF rfl (by omega) ?_ | refine T.condBF rfl (by omega) ?_
                        refine T.skip ?_
                        exact ⟨_, ⟨_, W6, S6, gl2, p4, none, a4, 0, ⟨y2, y3, z1, z2, by omega, by omega⟩, (updS rfl (updS rfl (updS rfl (updS rfl (updS rfl (updS rfl (updS rfl (updS rfl (updS rfl rfl))))))))), rfl⟩, Sub.any⟩
                      · skip
                        refine RO.eS rfl rfl (Ef.call (Wl.sector B (.slice da sc[k].data.length dc) sc[k].data hdv (by omega)) Tryd.func35 rfl rfl rfl ?_)
                        rintro _ _ ⟨gs2, rfl, rfl⟩
                        try simp only [List.cons_append, List.nil_append]
                        refine ⟨Sub.any, ?_⟩
                        refine RW.all [0, 8] (by kernel_rfl) (List.forall_mem_cons.2 ⟨?_, List.forall_mem_cons.2 ⟨?_, List.forall_mem_nil _⟩⟩)
                        · skip
                          first | refine RO.eS rfl rfl (Ef.qt (Qt.loadAgg [_, _] (by kernel_rfl) rfl ⟨rfl, rfl, trivial⟩) ?_) | refine RO.eS rfl rfl (Ef.qt (Qt.loadAgg [_, _] (by kernel_rfl) rfl (by exact rdl_flat _ _ _ (by intros; rfl) _ (by omega))) ?_)
                          refine ⟨Sub.any, ?_⟩
                          refine RW.one 8 (by kernel_rfl) ?_
                          first | refine RO.eS rfl rfl (Ef.qt (Qt.str (sectOf sc[k].data) (by kernel_rfl) (by kernel_rfl) rfl (fun w ho => (RdV.rB (p := some ⟨gs2, 0, none⟩) (c := 256) (length_sectOf _) (fun _ => ⟨_, rfl⟩)).reads w (ho.map Sub.any))) ?_)
                          refine ⟨Sub.any, ?_⟩
                          refine RW.one 9 (by kernel_rfl) ?_
                          refine RO.eS rfl rfl (Ef.call (Rf.put B p q a c 6 0 _ (first + mk) (by omega) (sectOf sc[k].data) Sc [] (by omega) (by omega) (by omega) (length_sectOf _)) Tryd.func36 rfl rfl rfl ?_)
                          rintro _ _ ⟨p1, a1, q1, c1, rfl, rfl⟩
                          try simp only [List.cons_append, List.nil_append]
                          refine ⟨Sub.any, ?_⟩
                          refine RW.q 10 rfl rfl (by kernel_rfl) Sub.any (Qt.move rfl) ?_
                          refine RW.q 11 rfl rfl (by kernel_rfl) Sub.any (Qt.extract rfl rfl) ?_
                          refine RW.q 12 rfl rfl (by kernel_rfl) Sub.any (Qt.extract rfl rfl) ?_
                          refine RW.one 13 (by kernel_rfl) ?_
                          refine RO.eS0 rfl rfl (Ef.store [_, _] (by kernel_rfl) rfl rfl rfl rfl (by simp) ?_)
                          try simp only [splice, List.length_cons, List.length_nil, List.drop_succ_cons, List.cons_append, List.take_succ_cons, List.take_zero, List.drop_zero, List.nil_append, List.append_nil]
                          refine ⟨Sub.any, ?_⟩
                          refine RW.done (by rfl) ?_
                          simp only [List.drop_succ_cons, List.drop_zero, List.drop_nil]
                          refine LW.done ?_
                          refine T.seq ?_
                          refine T.region ?_
                          refine LW.q rfl (Qt.move rfl) ?_
                          refine LW.q rfl (Qt.fieldAddr (off := 3) (by kernel_rfl) rfl) ?_
                          first | refine LW.q rfl (Qt.load (by kernel_rfl) rfl rfl) ?_ | refine LW.q rfl (Qt.load (by kernel_rfl) rfl (map_at _ _ _ (by omega))) ?_ | refine LW.q rfl (Qt.load (by kernel_rfl) rfl (flat_cell0 _ _ _ (by intros; rfl) _ (by omega) (by rfl))) ?_ | refine LW.q rfl (Qt.load (by kernel_rfl) rfl (flat_cell _ _ _ (by intros; rfl) _ _ (by omega) (by rfl))) ?_ | refine LW.q rfl (Qt.load (by kernel_rfl) rfl (bytes_at _ _ (by omega))) ?_
                          refine LW.q rfl (Qt.fieldAddr (off := 4) (by kernel_rfl) rfl) ?_
                          refine LW.q rfl (Qt.indexA 0 (len := 2) (e := 3) (sz := 1) (by kernel_rfl) rfl rfl rfl (by omega)) ?_
                          first | refine LW.q rfl (Qt.load (by kernel_rfl) rfl rfl) ?_ | refine LW.q rfl (Qt.load (by kernel_rfl) rfl (map_at _ _ _ (by omega))) ?_ | refine LW.q rfl (Qt.load (by kernel_rfl) rfl (flat_cell0 _ _ _ (by intros; rfl) _ (by omega) (by rfl))) ?_ | refine LW.q rfl (Qt.load (by kernel_rfl) rfl (flat_cell _ _ _ (by intros; rfl) _ _ (by omega) (by rfl))) ?_ | refine LW.q rfl (Qt.load (by kernel_rfl) rfl (bytes_at _ _ (by omega))) ?_
                          refine LW.q rfl (Qt.fieldAddr (off := 4) (by kernel_rfl) rfl) ?_
                          refine LW.q rfl (Qt.indexA 1 (len := 2) (e := 3) (sz := 1) (by kernel_rfl) rfl rfl rfl (by omega)) ?_
                          first | refine LW.q rfl (Qt.load (by kernel_rfl) rfl rfl) ?_ | refine LW.q rfl (Qt.load (by kernel_rfl) rfl (map_at _ _ _ (by omega))) ?_ | refine LW.q rfl (Qt.load (by kernel_rfl) rfl (flat_cell0 _ _ _ (by intros; rfl) _ (by omega) (by rfl))) ?_ | refine LW.q rfl (Qt.load (by kernel_rfl) rfl (flat_cell _ _ _ (by intros; rfl) _ _ (by omega) (by rfl))) ?_ | refine LW.q rfl (Qt.load (by kernel_rfl) rfl (bytes_at _ _ (by omega))) ?_
                          have ow := ho.wr2 (first + mk) (sectOf sc[k].data) (by show first + mk < Sc.length; omega) (length_sectOf _)
                          have oc := ow.cr sc[k].keep sc[k].t0 sc[k].t1
                          have ocl := DD.crash_len ow sc[k].keep sc[k].t0 sc[k].t1
                          obtain ⟨S5, hS5⟩ : ∃ S5, (DD.write ⟨Sc, []⟩ (first + mk) (sectOf sc[k].data)).crash sc[k].keep sc[k].t0 sc[k].t1 = ⟨S5, []⟩ := ⟨_, rfl⟩
                          have oce : DD.lays ⟨Sc, [(first + mk, sectOf sc[k].data)]⟩ (fun i => some (rAmt false sc[k].keep sc[k].t0 sc[k].t1 i)) (0 + 1) = S5 := by rw [lays_amt _ _ _ _ _ (by simp)]; exact congrArg DD.secs hS5
                          rw [hS5] at oc ocl
                          have ocl6 : S5.length = 6 := ocl.trans hsl
                          refine LW.e rfl (Ef.call (Dk.crashF B bd (DD.write ⟨Sc, []⟩ (first + mk) (sectOf sc[k].data)) (.slice ka sc[k].keep.length kc) sc[k].keep sc[k].t0 sc[k].t1 hkv (by simp [DD.write])) Tryd.func37 rfl rfl rfl ?_)
                          rintro _ _ ⟨rfl, rfl⟩
                          try simp only [List.cons_append, List.nil_append]
                          rw [hS5]
                          refine LW.done ?_
                          refine T.seq ?_
                          refine T.region ?_
                          first | refine LW.q rfl (Qt.loadAgg [_, _] (by kernel_rfl) rfl ⟨rfl, rfl, trivial⟩) ?_ | refine LW.q rfl (Qt.loadAgg [_, _] (by kernel_rfl) rfl (by exact rdl_flat _ _ _ (by intros; rfl) _ (by omega))) ?_
                          refine LW.q rfl (Qt.fieldAddr (off := 3) (by kernel_rfl) rfl) ?_
                          first | refine LW.q rfl (Qt.load (by kernel_rfl) rfl rfl) ?_ | refine LW.q rfl (Qt.load (by kernel_rfl) rfl (map_at _ _ _ (by omega))) ?_ | refine LW.q rfl (Qt.load (by kernel_rfl) rfl (flat_cell0 _ _ _ (by intros; rfl) _ (by omega) (by rfl))) ?_ | refine LW.q rfl (Qt.load (by kernel_rfl) rfl (flat_cell _ _ _ (by intros; rfl) _ _ (by omega) (by rfl))) ?_ | refine LW.q rfl (Qt.load (by kernel_rfl) rfl (bytes_at _ _ (by omega))) ?_
                          refine LW.q rfl (Qt.fieldAddr (off := 4) (by kernel_rfl) rfl) ?_
                          refine LW.q rfl (Qt.indexA 0 (len := 2) (e := 3) (sz := 1) (by kernel_rfl) rfl rfl rfl (by omega)) ?_
                          first | refine LW.q rfl (Qt.load (by kernel_rfl) rfl rfl) ?_ | refine LW.q rfl (Qt.load (by kernel_rfl) rfl (map_at _ _ _ (by omega))) ?_ | refine LW.q rfl (Qt.load (by kernel_rfl) rfl (flat_cell0 _ _ _ (by intros; rfl) _ (by omega) (by rfl))) ?_ | refine LW.q rfl (Qt.load (by kernel_rfl) rfl (flat_cell _ _ _ (by intros; rfl) _ _ (by omega) (by rfl))) ?_ | refine LW.q rfl (Qt.load (by kernel_rfl) rfl (bytes_at _ _ (by omega))) ?_
                          refine LW.q rfl (Qt.fieldAddr (off := 4) (by kernel_rfl) rfl) ?_
                          refine LW.q rfl (Qt.indexA 1 (len := 2) (e := 3) (sz := 1) (by kernel_rfl) rfl rfl rfl (by omega)) ?_
                          first | refine LW.q rfl (Qt.load (by kernel_rfl) rfl rfl) ?_ | refine LW.q rfl (Qt.load (by kernel_rfl) rfl (map_at _ _ _ (by omega))) ?_ | refine LW.q rfl (Qt.load (by kernel_rfl) rfl (flat_cell0 _ _ _ (by intros; rfl) _ (by omega) (by rfl))) ?_ | refine LW.q rfl (Qt.load (by kernel_rfl) rfl (flat_cell _ _ _ (by intros; rfl) _ _ (by omega) (by rfl))) ?_ | refine LW.q rfl (Qt.load (by kernel_rfl) rfl (bytes_at _ _ (by omega))) ?_
                          refine LW.e rfl (Ef.call (Rf.crash B p1 q1 a1 c1 6 (0 + 1) false (.slice ka sc[k].keep.length kc) sc[k].keep sc[k].t0 sc[k].t1 Sc [(first + mk, sectOf sc[k].data)] ow (by omega) hkv) Tryd.func38 rfl rfl rfl ?_)
                          rintro _ _ ⟨p2, a2, rfl, rfl⟩
                          try simp only [List.cons_append, List.nil_append]
                          rw [oce]
                          refine LW.e0 rfl (Ef.store [_, _] (by kernel_rfl) rfl rfl rfl rfl (by simp) ?_)
                          try simp only [splice, List.length_cons, List.length_nil, List.drop_succ_cons, List.cons_append, List.take_succ_cons, List.take_zero, List.drop_zero, List.nil_append, List.append_nil]
                          refine LW.done ?_
                          refine T.seq ?_
                          refine T.region ?_
                          refine LW.q rfl (Qt.move rfl) ?_
                          refine LW.q rfl (Qt.move rfl) ?_
                          refine LW.q rfl (Qt.move rfl) ?_
                          refine LW.e rfl (Ef.call (Wl.openE B bd ⟨S5, []⟩ first count (by omega) (by show first + count ≤ S5.length; omega) (by simp) oc) Tryd.func25 rfl rfl rfl ?_)
                          rintro _ _ ⟨gl2, q3, cq3, R3, kk, ss, u1, u2, u3, rfl, rfl⟩
                          try simp only [List.cons_append, List.nil_append]
                          obtain ⟨al, hal⟩ : ∃ al, allD ⟨S5, []⟩ first count = al := ⟨_, rfl⟩
                          have hall : al.length = count * 256 := by rw [← hal]; exact allD_length oc count (by show first + count ≤ S5.length; omega)
                          rw [hal] at u1 u3
                          rw [hal]
                          obtain ⟨W6, hW6⟩ : ∃ W6, (⟨first, count, al.take kk, ss, kk⟩ : Wl) = W6 := ⟨_, rfl⟩
                          have y1 := wipe_ok (W := W6) (al := al) (k := count - kk / 256) (n := kk / 256) oc (by rw [← hW6]; show first + _ ≤ S5.length; omega)
                          have y2 : (wipeD W6 al ⟨S5, []⟩ (kk / 256) (count - kk / 256)).sync.Ok := y1.1.sy
                          have y3 : (wipeD W6 al ⟨S5, []⟩ (kk / 256) (count - kk / 256)).sync.secs.length = 6 := by rw [DD.sync_len y1.1, y1.2]; exact ocl6
                          have z1 : W6.first = first := by rw [← hW6]
                          have z2 : W6.count = count := by rw [← hW6]
                          have z3 : W6.st.length = kk := by rw [← hW6]; exact u3
                          have z4 : W6.dur = kk := by rw [← hW6]
                          obtain ⟨S6, hS6⟩ : ∃ S6, (wipeD W6 al ⟨S5, []⟩ (kk / 256) (count - kk / 256)).sync = ⟨S6, []⟩ := ⟨_, rfl⟩
                          rw [hS6] at y2 y3
                          rw [hW6, hS6]
                          have hRn : R3.length < 2 ^ 40 := by have := congrArg (fun x => x.2.2.length) u1; obtain ⟨ds, _, k2, _, k4⟩ := scan_back (count * 256 + 1) 0 0 al (Nat.zero_le _); rw [k2] at this; simp only [length_logR, List.length_map] at this; have h5 := length_logB_le 0 0 ds; omega
                          refine LW.q rfl (Qt.move rfl) ?_
                          refine LW.q rfl (Qt.extract rfl rfl) ?_
                          refine LW.q rfl (Qt.extract rfl rfl) ?_
                          refine LW.q rfl (Qt.extract rfl rfl) ?_
                          refine LW.q rfl (Qt.assign rfl) ?_
                          refine LW.q rfl (Qt.assign rfl) ?_
                          refine LW.q rfl (Qt.assign rfl) ?_
                          refine LW.done ?_
                          refine T.seq ?_
                          refine T.region ?_
                          first | refine LW.q rfl (Qt.loadAgg [_, _] (by kernel_rfl) rfl ⟨rfl, rfl, trivial⟩) ?_ | refine LW.q rfl (Qt.loadAgg [_, _] (by kernel_rfl) rfl (by exact rdl_flat _ _ _ (by intros; rfl) _ (by omega))) ?_
                          refine LW.q rfl (Qt.move rfl) ?_
                          refine LW.q rfl (Qt.move rfl) ?_
                          refine LW.e rfl (Ef.call (Rl.open B ⟨S5, []⟩ p2 none a2 0 6 0 ocl6 rfl oc (by omega) first count _ _ rfl rfl (by omega) (by omega)) Tryd.func29 rfl rfl rfl ?_)
                          rintro _ _ ⟨p4, a4, kk2, ss2, R4, q4, cq4, x1, rfl, rfl⟩
                          try simp only [List.cons_append, List.nil_append]
                          rw [hal, u1] at x1
                          injection x1 with x1 x2
                          injection x2 with x2 x3
                          subst x1
                          subst x2
                          subst x3
                          rw [hal, List.length_map, hW6, hS6]
                          refine LW.q rfl (Qt.move rfl) ?_
                          refine LW.q rfl (Qt.extract rfl rfl) ?_
                          refine LW.q rfl (Qt.extract rfl rfl) ?_
                          refine LW.q rfl (Qt.extract rfl rfl) ?_
                          refine LW.q rfl (Qt.extract rfl rfl) ?_
                          refine LW.e0 rfl (Ef.store [_, _] (by kernel_rfl) rfl rfl rfl rfl (by simp) ?_)
                          try simp only [splice, List.length_cons, List.length_nil, List.drop_succ_cons, List.cons_append, List.take_succ_cons, List.take_zero, List.drop_zero, List.nil_append, List.append_nil]
                          refine LW.e0 rfl (Ef.store [_, _, _, _, _] (by kernel_rfl) rfl rfl rfl rfl (by simp) ?_)
                          try simp only [splice, List.length_cons, List.length_nil, List.drop_succ_cons, List.cons_append, List.take_succ_cons, List.take_zero, List.drop_zero, List.nil_append, List.append_nil]
                          refine LW.q rfl (Qt.assign rfl) ?_
                          refine LW.done ?_
                          refine T.seq ?_
                          refine T.region ?_
                          refine LW.q rfl (Qt.move rfl) ?_
                          first | refine LW.q rfl (Qt.eqlNil (by kernel_rfl) rfl rfl) ?_ | refine LW.q rfl (Qt.eqlNN (by kernel_rfl) rfl rfl) ?_
                          refine LW.q rfl (Qt.move rfl) ?_
                          first | refine LW.gF (t := 231) rfl rfl ?_ | refine LW.gF (t := 231) rfl (decide_eq_false (by omega)) ?_ | refine LW.gF (t := 231) rfl (by omega) ?_
                          refine LW.q rfl (Qt.move rfl) ?_
                          refine LW.q rfl (Qt.neq rfl rfl) ?_
                          refine LW.q rfl (Qt.pick rfl rfl) ?_
                          refine LW.q rfl (Qt.move rfl) ?_
                          first | refine LW.gF (t := 235) rfl rfl ?_ | refine LW.gF (t := 235) rfl (decide_eq_false (by omega)) ?_ | refine LW.gF (t := 235) rfl (by omega) ?_
                          refine LW.q rfl (Qt.move rfl) ?_
                          refine LW.q rfl (Qt.move rfl) ?_
                          refine LW.e rfl (Ef.call (Rl.records B R3 (R3.map fun x => (x.mark, x.r.b)) q3 q4 cq3 cq4 R3.length rfl hRn rfl) Tryd.func30 rfl rfl rfl ?_)
                          rintro _ _ ⟨rfl, rfl⟩
                          try simp only [List.cons_append, List.nil_append]
                          first | refine LW.q rfl (Qt.notP rfl) ?_ | refine LW.q rfl (Qt.notB rfl) ?_
                          refine LW.q rfl (Qt.pick rfl rfl) ?_
                          refine LW.done ?_
                          first | refine T.condF rfl ?_ | refine T.condPF rfl (by omega) ?_ | refine T.condBF rfl (by omega) ?_
                          refine T.skip ?_
                          exact ⟨_, ⟨_, W6, S6, gl2, p4, none, a4, 0, ⟨y2, y3, z1, z2, by omega, by omega⟩, (updS rfl (updS rfl (updS rfl (updS rfl (updS rfl (updS rfl (updS rfl (updS rfl (updS rfl rfl))))))))), rfl⟩, Sub.any⟩
                        · skip
                          first | refine RO.eS rfl rfl (Ef.qt (Qt.str (sectOf sc[k].data) (by kernel_rfl) (by kernel_rfl) rfl (fun w ho => (RdV.rB (p := some ⟨gs2, 0, none⟩) (c := 256) (length_sectOf _) (fun _ => ⟨_, rfl⟩)).reads w (ho.map Sub.any))) ?_)
                          refine ⟨Sub.any, ?_⟩
                          refine RW.one 0 (by kernel_rfl) ?_
                          first | refine RO.eS rfl rfl (Ef.qt (Qt.loadAgg [_, _] (by kernel_rfl) rfl ⟨rfl, rfl, trivial⟩) ?_) | refine RO.eS rfl rfl (Ef.qt (Qt.loadAgg [_, _] (by kernel_rfl) rfl (by exact rdl_flat _ _ _ (by intros; rfl) _ (by omega))) ?_)
                          refine ⟨Sub.any, ?_⟩
                          refine RW.one 9 (by kernel_rfl) ?_
                          refine RO.eS rfl rfl (Ef.call (Rf.put B p q a c 6 0 _ (first + mk) (by omega) (sectOf sc[k].data) Sc [] (by omega) (by omega) (by omega) (length_sectOf _)) Tryd.func36 rfl rfl rfl ?_)
                          rintro _ _ ⟨p1, a1, q1, c1, rfl, rfl⟩
                          try simp only [List.cons_append, List.nil_append]
                          refine ⟨Sub.any, ?_⟩
                          refine RW.q 10 rfl rfl (by kernel_rfl) Sub.any (Qt.move rfl) ?_
                          refine RW.q 11 rfl rfl (by kernel_rfl) Sub.any (Qt.extract rfl rfl) ?_
                          refine RW.q 12 rfl rfl (by kernel_rfl) Sub.any (Qt.extract rfl rfl) ?_
                          refine RW.one 13 (by kernel_rfl) ?_
                          refine RO.eS0 rfl rfl (Ef.store [_, _] (by kernel_rfl) rfl rfl rfl rfl (by simp) ?_)
                          try simp only [splice, List.length_cons, List.length_nil, List.drop_succ_cons, List.cons_append, List.take_succ_cons, List.take_zero, List.drop_zero, List.nil_append, List.append_nil]
                          refine ⟨Sub.any, ?_⟩
                          refine RW.done (by rfl) ?_
                          simp only [List.drop_succ_cons, List.drop_zero, List.drop_nil]
                          refine LW.done ?_
                          refine T.seq ?_
                          refine T.region ?_
                          refine LW.q rfl (Qt.move rfl) ?_
                          refine LW.q rfl (Qt.fieldAddr (off := 3) (by kernel_rfl) rfl) ?_
                          first | refine LW.q rfl (Qt.load (by kernel_rfl) rfl rfl) ?_ | refine LW.q rfl (Qt.load (by kernel_rfl) rfl (map_at _ _ _ (by omega))) ?_ | refine LW.q rfl (Qt.load (by kernel_rfl) rfl (flat_cell0 _ _ _ (by intros; rfl) _ (by omega) (by rfl))) ?_ | refine LW.q rfl (Qt.load (by kernel_rfl) rfl (flat_cell _ _ _ (by intros; rfl) _ _ (by omega) (by rfl))) ?_ | refine LW.q rfl (Qt.load (by kernel_rfl) rfl (bytes_at _ _ (by omega))) ?_
                          refine LW.q rfl (Qt.fieldAddr (off := 4) (by kernel_rfl) rfl) ?_
                          refine LW.q rfl (Qt.indexA 0 (len := 2) (e := 3) (sz := 1) (by kernel_rfl) rfl rfl rfl (by omega)) ?_
                          first | refine LW.q rfl (Qt.load (by kernel_rfl) rfl rfl) ?_ | refine LW.q rfl (Qt.load (by kernel_rfl) rfl (map_at _ _ _ (by omega))) ?_ | refine LW.q rfl (Qt.load (by kernel_rfl) rfl (flat_cell0 _ _ _ (by intros; rfl) _ (by omega) (by rfl))) ?_ | refine LW.q rfl (Qt.load (by kernel_rfl) rfl (flat_cell _ _ _ (by intros; rfl) _ _ (by omega) (by rfl))) ?_ | refine LW.q rfl (Qt.load (by kernel_rfl) rfl (bytes_at _ _ (by omega))) ?_
                          refine LW.q rfl (Qt.fieldAddr (off := 4) (by kernel_rfl) rfl) ?_
                          refine LW.q rfl (Qt.indexA 1 (len := 2) (e := 3) (sz := 1) (by kernel_rfl) rfl rfl rfl (by omega)) ?_
                          first | refine LW.q rfl (Qt.load (by kernel_rfl) rfl rfl) ?_ | refine LW.q rfl (Qt.load (by kernel_rfl) rfl (map_at _ _ _ (by omega))) ?_ | refine LW.q rfl (Qt.load (by kernel_rfl) rfl (flat_cell0 _ _ _ (by intros; rfl) _ (by omega) (by rfl))) ?_ | refine LW.q rfl (Qt.load (by kernel_rfl) rfl (flat_cell _ _ _ (by intros; rfl) _ _ (by omega) (by rfl))) ?_ | refine LW.q rfl (Qt.load (by kernel_rfl) rfl (bytes_at _ _ (by omega))) ?_
                          have ow := ho.wr2 (first + mk) (sectOf sc[k].data) (by show first + mk < Sc.length; omega) (length_sectOf _)
                          have oc := ow.cr sc[k].keep sc[k].t0 sc[k].t1
                          have ocl := DD.crash_len ow sc[k].keep sc[k].t0 sc[k].t1
                          obtain ⟨S5, hS5⟩ : ∃ S5, (DD.write ⟨Sc, []⟩ (first + mk) (sectOf sc[k].data)).crash sc[k].keep sc[k].t0 sc[k].t1 = ⟨S5, []⟩ := ⟨_, rfl⟩
                          have oce : DD.lays ⟨Sc, [(first + mk, sectOf sc[k].data)]⟩ (fun i => some (rAmt false sc[k].keep sc[k].t0 sc[k].t1 i)) (0 + 1) = S5 := by rw [lays_amt _ _ _ _ _ (by simp)]; exact congrArg DD.secs hS5
                          rw [hS5] at oc ocl
                          have ocl6 : S5.length = 6 := ocl.trans hsl
                          refine LW.e rfl (Ef.call (Dk.crashF B bd (DD.write ⟨Sc, []⟩ (first + mk) (sectOf sc[k].data)) (.slice ka sc[k].keep.length kc) sc[k].keep sc[k].t0 sc[k].t1 hkv (by simp [DD.write])) Tryd.func37 rfl rfl rfl ?_)
                          rintro _ _ ⟨rfl, rfl⟩
                          try simp only [List.cons_append, List.nil_append]
                          rw [hS5]
                          refine LW.done ?_
                          refine T.seq ?_
                          refine T.region ?_
                          first | refine LW.q rfl (Qt.loadAgg [_, _] (by kernel_rfl) rfl ⟨rfl, rfl, trivial⟩) ?_ | refine LW.q rfl (Qt.loadAgg [_, _] (by kernel_rfl) rfl (by exact rdl_flat _ _ _ (by intros; rfl) _ (by omega))) ?_
                          refine LW.q rfl (Qt.fieldAddr (off := 3) (by kernel_rfl) rfl) ?_
                          first | refine LW.q rfl (Qt.load (by kernel_rfl) rfl rfl) ?_ | refine LW.q rfl (Qt.load (by kernel_rfl) rfl (map_at _ _ _ (by omega))) ?_ | refine LW.q rfl (Qt.load (by kernel_rfl) rfl (flat_cell0 _ _ _ (by intros; rfl) _ (by omega) (by rfl))) ?_ | refine LW.q rfl (Qt.load (by kernel_rfl) rfl (flat_cell _ _ _ (by intros; rfl) _ _ (by omega) (by rfl))) ?_ | refine LW.q rfl (Qt.load (by kernel_rfl) rfl (bytes_at _ _ (by omega))) ?_
                          refine LW.q rfl (Qt.fieldAddr (off := 4) (by kernel_rfl) rfl) ?_
                          refine LW.q rfl (Qt.indexA 0 (len := 2) (e := 3) (sz := 1) (by kernel_rfl) rfl rfl rfl (by omega)) ?_
                          first | refine LW.q rfl (Qt.load (by kernel_rfl) rfl rfl) ?_ | refine LW.q rfl (Qt.load (by kernel_rfl) rfl (map_at _ _ _ (by omega))) ?_ | refine LW.q rfl (Qt.load (by kernel_rfl) rfl (flat_cell0 _ _ _ (by intros; rfl) _ (by omega) (by rfl))) ?_ | refine LW.q rfl (Qt.load (by kernel_rfl) rfl (flat_cell _ _ _ (by intros; rfl) _ _ (by omega) (by rfl))) ?_ | refine LW.q rfl (Qt.load (by kernel_rfl) rfl (bytes_at _ _ (by omega))) ?_
                          refine LW.q rfl (Qt.fieldAddr (off := 4) (by kernel_rfl) rfl) ?_
                          refine LW.q rfl (Qt.indexA 1 (len := 2) (e := 3) (sz := 1) (by kernel_rfl) rfl rfl rfl (by omega)) ?_
                          first | refine LW.q rfl (Qt.load (by kernel_rfl) rfl rfl) ?_ | refine LW.q rfl (Qt.load (by kernel_rfl) rfl (map_at _ _ _ (by omega))) ?_ | refine LW.q rfl (Qt.load (by kernel_rfl) rfl (flat_cell0 _ _ _ (by intros; rfl) _ (by omega) (by rfl))) ?_ | refine LW.q rfl (Qt.load (by kernel_rfl) rfl (flat_cell _ _ _ (by intros; rfl) _ _ (by omega) (by rfl))) ?_ | refine LW.q rfl (Qt.load (by kernel_rfl) rfl (bytes_at _ _ (by omega))) ?_
                          refine LW.e rfl (Ef.call (Rf.crash B p1 q1 a1 c1 6 (0 + 1) false (.slice ka sc[k].keep.length kc) sc[k].keep sc[k].t0 sc[k].t1 Sc [(first + mk, sectOf sc[k].data)] ow (by omega) hkv) Tryd.func38 rfl rfl rfl ?_)
                          rintro _ _ ⟨p2, a2, rfl, rfl⟩
                          try simp only [List.cons_append, List.nil_append]
                          rw [oce]
                          refine LW.e0 rfl (Ef.store [_, _] (by kernel_rfl) rfl rfl rfl rfl (by simp) ?_)
                          try simp only [splice, List.length_cons, List.length_nil, List.drop_succ_cons, List.cons_append, List.take_succ_cons, List.take_zero, List.drop_zero, List.nil_append, List.append_nil]
                          refine LW.done ?_
                          refine T.seq ?_
                          refine T.region ?_
                          refine LW.q rfl (Qt.move rfl) ?_
                          refine LW.q rfl (Qt.move rfl) ?_
                          refine LW.q rfl (Qt.move rfl) ?_
                          refine LW.e rfl (Ef.call (Wl.openE B bd ⟨S5, []⟩ first count (by omega) (by show first + count ≤ S5.length; omega) (by simp) oc) Tryd.func25 rfl rfl rfl ?_)
                          rintro _ _ ⟨gl2, q3, cq3, R3, kk, ss, u1, u2, u3, rfl, rfl⟩
                          try simp only [List.cons_append, List.nil_append]
                          obtain ⟨al, hal⟩ : ∃ al, allD ⟨S5, []⟩ first count = al := ⟨_, rfl⟩
                          have hall : al.length = count * 256 := by rw [← hal]; exact allD_length oc count (by show first + count ≤ S5.length; omega)
                          rw [hal] at u1 u3
                          rw [hal]
                          obtain ⟨W6, hW6⟩ : ∃ W6, (⟨first, count, al.take kk, ss, kk⟩ : Wl) = W6 := ⟨_, rfl⟩
                          have y1 := wipe_ok (W := W6) (al := al) (k := count - kk / 256) (n := kk / 256) oc (by rw [← hW6]; show first + _ ≤ S5.length; omega)
                          have y2 : (wipeD W6 al ⟨S5, []⟩ (kk / 256) (count - kk / 256)).sync.Ok := y1.1.sy
                          have y3 : (wipeD W6 al ⟨S5, []⟩ (kk / 256) (count - kk / 256)).sync.secs.length = 6 := by rw [DD.sync_len y1.1, y1.2]; exact ocl6
                          have z1 : W6.first = first := by rw [← hW6]
                          have z2 : W6.count = count := by rw [← hW6]
                          have z3 : W6.st.length = kk := by rw [← hW6]; exact u3
                          have z4 : W6.dur = kk := by rw [← hW6]
                          obtain ⟨S6, hS6⟩ : ∃ S6, (wipeD W6 al ⟨S5, []⟩ (kk / 256) (count - kk / 256)).sync = ⟨S6, []⟩ := ⟨_, rfl⟩
                          rw [hS6] at y2 y3
                          rw [hW6, hS6]
                          have hRn : R3.length < 2 ^ 40 := by have := congrArg (fun x => x.2.2.length) u1; obtain ⟨ds, _, k2, _, k4⟩ := scan_back (count * 256 + 1) 0 0 al (Nat.zero_le _); rw [k2] at this; simp only [length_logR, List.length_map] at this; have h5 := length_logB_le 0 0 ds; omega
                          refine LW.q rfl (Qt.move rfl) ?_
                          refine LW.q rfl (Qt.extract rfl rfl) ?_
                          refine LW.q rfl (Qt.extract rfl rfl) ?_
                          refine LW.q rfl (Qt.extract rfl rfl) ?_
                          refine LW.q rfl (Qt.assign rfl) ?_
                          refine LW.q rfl (Qt.assign rfl) ?_
                          refine LW.q rfl (Qt.assign rfl) ?_
                          refine LW.done ?_
                          refine T.seq ?_
                          refine T.region ?_
                          first | refine LW.q rfl (Qt.loadAgg [_, _] (by kernel_rfl) rfl ⟨rfl, rfl, trivial⟩) ?_ | refine LW.q rfl (Qt.loadAgg [_, _] (by kernel_rfl) rfl (by exact rdl_flat _ _ _ (by intros; rfl) _ (by omega))) ?_
                          refine LW.q rfl (Qt.move rfl) ?_
                          refine LW.q rfl (Qt.move rfl) ?_
                          refine LW.e rfl (Ef.call (Rl.open B ⟨S5, []⟩ p2 none a2 0 6 0 ocl6 rfl oc (by omega) first count _ _ rfl rfl (by omega) (by omega)) Tryd.func29 rfl rfl rfl ?_)
                          rintro _ _ ⟨p4, a4, kk2, ss2, R4, q4, cq4, x1, rfl, rfl⟩
                          try simp only [List.cons_append, List.nil_append]
                          rw [hal, u1] at x1
                          injection x1 with x1 x2
                          injection x2 with x2 x3
                          subst x1
                          subst x2
                          subst x3
                          rw [hal, List.length_map, hW6, hS6]
                          refine LW.q rfl (Qt.move rfl) ?_
                          refine LW.q rfl (Qt.extract rfl rfl) ?_
                          refine LW.q rfl (Qt.extract rfl rfl) ?_
                          refine LW.q rfl (Qt.extract rfl rfl) ?_
                          refine LW.q rfl (Qt.extract rfl rfl) ?_
                          refine LW.e0 rfl (Ef.store [_, _] (by kernel_rfl) rfl rfl rfl rfl (by simp) ?_)
                          try simp only [splice, List.length_cons, List.length_nil, List.drop_succ_cons, List.cons_append, List.take_succ_cons, List.take_zero, List.drop_zero, List.nil_append, List.append_nil]
                          refine LW.e0 rfl (Ef.store [_, _, _, _, _] (by kernel_rfl) rfl rfl rfl rfl (by simp) ?_)
                          try simp only [splice, List.length_cons, List.length_nil, List.drop_succ_cons, List.cons_append, List.take_succ_cons, List.take_zero, List.drop_zero, List.nil_append, List.append_nil]
                          refine LW.q rfl (Qt.assign rfl) ?_
                          refine LW.done ?_
                          refine T.seq ?_
                          refine T.region ?_
                          refine LW.q rfl (Qt.move rfl) ?_
                          first | refine LW.q rfl (Qt.eqlNil (by kernel_rfl) rfl rfl) ?_ | refine LW.q rfl (Qt.eqlNN (by kernel_rfl) rfl rfl) ?_
                          refine LW.q rfl (Qt.move rfl) ?_
                          first | refine LW.gF (t := 231) rfl rfl ?_ | refine LW.gF (t := 231) rfl (decide_eq_false (by omega)) ?_ | refine LW.gF (t := 231) rfl (by omega) ?_
                          refine LW.q rfl (Qt.move rfl) ?_
                          refine LW.q rfl (Qt.neq rfl rfl) ?_
                          refine LW.q rfl (Qt.pick rfl rfl) ?_
                          refine LW.q rfl (Qt.move rfl) ?_
                          first | refine LW.gF (t := 235) rfl rfl ?_ | refine LW.gF (t := 235) rfl (decide_eq_false (by omega)) ?_ | refine LW.gF (t := 235) rfl (by omega) ?_
                          refine LW.q rfl (Qt.move rfl) ?_
                          refine LW.q rfl (Qt.move rfl) ?_
                          refine LW.e rfl (Ef.call (Rl.records B R3 (R3.map fun x => (x.mark, x.r.b)) q3 q4 cq3 cq4 R3.length rfl hRn rfl) Tryd.func30 rfl rfl rfl ?_)
                          rintro _ _ ⟨rfl, rfl⟩
                          try simp only [List.cons_append, List.nil_append]
                          first | refine LW.q rfl (Qt.notP rfl) ?_ | refine LW.q rfl (Qt.notB rfl) ?_
                          refine LW.q rfl (Qt.pick rfl rfl) ?_
                          refine LW.done ?_
                          first | refine T.condF rfl ?_ | refine T.condPF rfl (by omega) ?_ | refine T.condBF rfl (by omega) ?_
                          refine T.skip ?_
                          exact ⟨_, ⟨_, W6, S6, gl2, p4, none, a4, 0, ⟨y2, y3, z1, z2, by omega, by omega⟩, (updS rfl (updS rfl (updS rfl (updS rfl (updS rfl (updS rfl (updS rfl (updS rfl (updS rfl rfl))))))))), rfl⟩, Sub.any⟩
                    · skip
                      have oc := ho.cr sc[k].keep sc[k].t0 sc[k].t1
                      have ocl := DD.crash_len ho sc[k].keep sc[k].t0 sc[k].t1
                      obtain ⟨S5, hS5⟩ : ∃ S5, (⟨Sc, []⟩ : DD).crash sc[k].keep sc[k].t0 sc[k].t1 = ⟨S5, []⟩ := ⟨_, rfl⟩
                      have oce : DD.lays ⟨Sc, []⟩ (fun i => some (rAmt false sc[k].keep sc[k].t0 sc[k].t1 i)) 0 = S5 := congrArg DD.secs hS5
                      rw [hS5] at oc ocl
                      have ocl6 : S5.length = 6 := ocl.trans hsl
                      refine T.skip ?_
                      refine T.seq ?_
                      refine T.region ?_
                      refine LW.q rfl (Qt.move rfl) ?_
                      refine LW.q rfl (Qt.fieldAddr (off := 3) (by kernel_rfl) rfl) ?_
                      first | refine LW.q rfl (Qt.load (by kernel_rfl) rfl rfl) ?_ | refine LW.q rfl (Qt.load (by kernel_rfl) rfl (map_at _ _ _ (by omega))) ?_ | refine LW.q rfl (Qt.load (by kernel_rfl) rfl (flat_cell0 _ _ _ (by intros; rfl) _ (by omega) (by rfl))) ?_ | refine LW.q rfl (Qt.load (by kernel_rfl) rfl (flat_cell _ _ _ (by intros; rfl) _ _ (by omega) (by rfl))) ?_ | refine LW.q rfl (Qt.load (by kernel_rfl) rfl (bytes_at _ _ (by omega))) ?_
                      refine LW.q rfl (Qt.fieldAddr (off := 4) (by kernel_rfl) rfl) ?_
                      refine LW.q rfl (Qt.indexA 0 (len := 2) (e := 3) (sz := 1) (by kernel_rfl) rfl rfl rfl (by omega)) ?_
                      first | refine LW.q rfl (Qt.load (by kernel_rfl) rfl rfl) ?_ | refine LW.q rfl (Qt.load (by kernel_rfl) rfl (map_at _ _ _ (by omega))) ?_ | refine LW.q rfl (Qt.load (by kernel_rfl) rfl (flat_cell0 _ _ _ (by intros; rfl) _ (by omega) (by rfl))) ?_ | refine LW.q rfl (Qt.load (by kernel_rfl) rfl (flat_cell _ _ _ (by intros; rfl) _ _ (by omega) (by rfl))) ?_ | refine LW.q rfl (Qt.load (by kernel_rfl) rfl (bytes_at _ _ (by omega))) ?_
                      refine LW.q rfl (Qt.fieldAddr (off := 4) (by kernel_rfl) rfl) ?_
                      refine LW.q rfl (Qt.indexA 1 (len := 2) (e := 3) (sz := 1) (by kernel_rfl) rfl rfl rfl (by omega)) ?_
                      first | refine LW.q rfl (Qt.load (by kernel_rfl) rfl rfl) ?_ | refine LW.q rfl (Qt.load (by kernel_rfl) rfl (map_at _ _ _ (by omega))) ?_ | refine LW.q rfl (Qt.load (by kernel_rfl) rfl (flat_cell0 _ _ _ (by intros; rfl) _ (by omega) (by rfl))) ?_ | refine LW.q rfl (Qt.load (by kernel_rfl) rfl (flat_cell _ _ _ (by intros; rfl) _ _ (by omega) (by rfl))) ?_ | refine LW.q rfl (Qt.load (by kernel_rfl) rfl (bytes_at _ _ (by omega))) ?_
                      refine LW.e rfl (Ef.call (Dk.crashF B bd (⟨Sc, []⟩ : DD) (.slice ka sc[k].keep.length kc) sc[k].keep sc[k].t0 sc[k].t1 hkv (by simp [DD.write])) Tryd.func37 rfl rfl rfl ?_)
                      rintro _ _ ⟨rfl, rfl⟩
                      try simp only [List.cons_append, List.nil_append]
                      rw [hS5]
                      refine LW.done ?_
                      refine T.seq ?_
                      refine T.region ?_
                      first | refine LW.q rfl (Qt.loadAgg [_, _] (by kernel_rfl) rfl ⟨rfl, rfl, trivial⟩) ?_ | refine LW.q rfl (Qt.loadAgg [_, _] (by kernel_rfl) rfl (by exact rdl_flat _ _ _ (by intros; rfl) _ (by omega))) ?_
                      refine LW.q rfl (Qt.fieldAddr (off := 3) (by kernel_rfl) rfl) ?_
                      first | refine LW.q rfl (Qt.load (by kernel_rfl) rfl rfl) ?_ | refine LW.q rfl (Qt.load (by kernel_rfl) rfl (map_at _ _ _ (by omega))) ?_ | refine LW.q rfl (Qt.load (by kernel_rfl) rfl (flat_cell0 _ _ _ (by intros; rfl) _ (by omega) (by rfl))) ?_ | refine LW.q rfl (Qt.load (by kernel_rfl) rfl (flat_cell _ _ _ (by intros; rfl) _ _ (by omega) (by rfl))) ?_ | refine LW.q rfl (Qt.load (by kernel_rfl) rfl (bytes_at _ _ (by omega))) ?_
                      refine LW.q rfl (Qt.fieldAddr (off := 4) (by kernel_rfl) rfl) ?_
                      refine LW.q rfl (Qt.indexA 0 (len := 2) (e := 3) (sz := 1) (by kernel_rfl) rfl rfl rfl (by omega)) ?_
                      first | refine LW.q rfl (Qt.load (by kernel_rfl) rfl rfl) ?_ | refine LW.q rfl (Qt.load (by kernel_rfl) rfl (map_at _ _ _ (by omega))) ?_ | refine LW.q rfl (Qt.load (by kernel_rfl) rfl (flat_cell0 _ _ _ (by intros; rfl) _ (by omega) (by rfl))) ?_ | refine LW.q rfl (Qt.load (by kernel_rfl) rfl (flat_cell _ _ _ (by intros; rfl) _ _ (by omega) (by rfl))) ?_ | refine LW.q rfl (Qt.load (by kernel_rfl) rfl (bytes_at _ _ (by omega))) ?_
                      refine LW.q rfl (Qt.fieldAddr (off := 4) (by kernel_rfl) rfl) ?_
                      refine LW.q rfl (Qt.indexA 1 (len := 2) (e := 3) (sz := 1) (by kernel_rfl) rfl rfl rfl (by omega)) ?_
                      first | refine LW.q rfl (Qt.load (by kernel_rfl) rfl rfl) ?_ | refine LW.q rfl (Qt.load (by kernel_rfl) rfl (map_at _ _ _ (by omega))) ?_ | refine LW.q rfl (Qt.load (by kernel_rfl) rfl (flat_cell0 _ _ _ (by intros; rfl) _ (by omega) (by rfl))) ?_ | refine LW.q rfl (Qt.load (by kernel_rfl) rfl (flat_cell _ _ _ (by intros; rfl) _ _ (by omega) (by rfl))) ?_ | refine LW.q rfl (Qt.load (by kernel_rfl) rfl (bytes_at _ _ (by omega))) ?_
                      refine LW.e rfl (Ef.call (Rf.crash B p q a c 6 0 false (.slice ka sc[k].keep.length kc) sc[k].keep sc[k].t0 sc[k].t1 Sc [] ho (by omega) hkv) Tryd.func38 rfl rfl rfl ?_)
                      rintro _ _ ⟨p2, a2, rfl, rfl⟩
                      try simp only [List.cons_append, List.nil_append]
                      rw [oce]
                      refine LW.e0 rfl (Ef.store [_, _] (by kernel_rfl) rfl rfl rfl rfl (by simp) ?_)
                      try simp only [splice, List.length_cons, List.length_nil, List.drop_succ_cons, List.cons_append, List.take_succ_cons, List.take_zero, List.drop_zero, List.nil_append, List.append_nil]
                      refine LW.done ?_
                      refine T.seq ?_
                      refine T.region ?_
                      refine LW.q rfl (Qt.move rfl) ?_
                      refine LW.q rfl (Qt.move rfl) ?_
                      refine LW.q rfl (Qt.move rfl) ?_
                      refine LW.e rfl (Ef.call (Wl.openE B bd ⟨S5, []⟩ first count (by omega) (by show first + count ≤ S5.length; omega) (by simp) oc) Tryd.func25 rfl rfl rfl ?_)
                      rintro _ _ ⟨gl2, q3, cq3, R3, kk, ss, u1, u2, u3, rfl, rfl⟩
                      try simp only [List.cons_append, List.nil_append]
                      obtain ⟨al, hal⟩ : ∃ al, allD ⟨S5, []⟩ first count = al := ⟨_, rfl⟩
                      have hall : al.length = count * 256 := by rw [← hal]; exact allD_length oc count (by show first + count ≤ S5.length; omega)
                      rw [hal] at u1 u3
                      rw [hal]
                      obtain ⟨W6, hW6⟩ : ∃ W6, (⟨first, count, al.take kk, ss, kk⟩ : Wl) = W6 := ⟨_, rfl⟩
                      have y1 := wipe_ok (W := W6) (al := al) (k := count - kk / 256) (n := kk / 256) oc (by rw [← hW6]; show first + _ ≤ S5.length; omega)
                      have y2 : (wipeD W6 al ⟨S5, []⟩ (kk / 256) (count - kk / 256)).sync.Ok := y1.1.sy
                      have y3 : (wipeD W6 al ⟨S5, []⟩ (kk / 256) (count - kk / 256)).sync.secs.length = 6 := by rw [DD.sync_len y1.1, y1.2]; exact ocl6
                      have z1 : W6.first = first := by rw [← hW6]
                      have z2 : W6.count = count := by rw [← hW6]
                      have z3 : W6.st.length = kk := by rw [← hW6]; exact u3
                      have z4 : W6.dur = kk := by rw [← hW6]
                      obtain ⟨S6, hS6⟩ : ∃ S6, (wipeD W6 al ⟨S5, []⟩ (kk / 256) (count - kk / 256)).sync = ⟨S6, []⟩ := ⟨_, rfl⟩
                      rw [hS6] at y2 y3
                      rw [hW6, hS6]
                      have hRn : R3.length < 2 ^ 40 := by have := congrArg (fun x => x.2.2.length) u1; obtain ⟨ds, _, k2, _, k4⟩ := scan_back (count * 256 + 1) 0 0 al (Nat.zero_le _); rw [k2] at this; simp only [length_logR, List.length_map] at this; have h5 := length_logB_le 0 0 ds; omega
                      refine LW.q rfl (Qt.move rfl) ?_
                      refine LW.q rfl (Qt.extract rfl rfl) ?_
                      refine LW.q rfl (Qt.extract rfl rfl) ?_
                      refine LW.q rfl (Qt.extract rfl rfl) ?_
                      refine LW.q rfl (Qt.assign rfl) ?_
                      refine LW.q rfl (Qt.assign rfl) ?_
                      refine LW.q rfl (Qt.assign rfl) ?_
                      refine LW.done ?_
                      refine T.seq ?_
                      refine T.region ?_
                      first | refine LW.q rfl (Qt.loadAgg [_, _] (by kernel_rfl) rfl ⟨rfl, rfl, trivial⟩) ?_ | refine LW.q rfl (Qt.loadAgg [_, _] (by kernel_rfl) rfl (by exact rdl_flat _ _ _ (by intros; rfl) _ (by omega))) ?_
                      refine LW.q rfl (Qt.move rfl) ?_
                      refine LW.q rfl (Qt.move rfl) ?_
                      refine LW.e rfl (Ef.call (Rl.open B ⟨S5, []⟩ p2 none a2 0 6 0 ocl6 rfl oc (by omega) first count _ _ rfl rfl (by omega) (by omega)) Tryd.func29 rfl rfl rfl ?_)
                      rintro _ _ ⟨p4, a4, kk2, ss2, R4, q4, cq4, x1, rfl, rfl⟩
                      try simp only [List.cons_append, List.nil_append]
                      rw [hal, u1] at x1
                      injection x1 with x1 x2
                      injection x2 with x2 x3
                      subst x1
                      subst x2
                      subst x3
                      rw [hal, List.length_map, hW6, hS6]
                      refine LW.q rfl (Qt.move rfl) ?_
                      refine LW.q rfl (Qt.extract rfl rfl) ?_
                      refine LW.q rfl (Qt.extract rfl rfl) ?_
                      refine LW.q rfl (Qt.extract rfl rfl) ?_
                      refine LW.q rfl (Qt.extract rfl rfl) ?_
                      refine LW.e0 rfl (Ef.store [_, _] (by kernel_rfl) rfl rfl rfl rfl (by simp) ?_)
                      try simp only [splice, List.length_cons, List.length_nil, List.drop_succ_cons, List.cons_append, List.take_succ_cons, List.take_zero, List.drop_zero, List.nil_append, List.append_nil]
                      refine LW.e0 rfl (Ef.store [_, _, _, _, _] (by kernel_rfl) rfl rfl rfl rfl (by simp) ?_)
                      try simp only [splice, List.length_cons, List.length_nil, List.drop_succ_cons, List.cons_append, List.take_succ_cons, List.take_zero, List.drop_zero, List.nil_append, List.append_nil]
                      refine LW.q rfl (Qt.assign rfl) ?_
                      refine LW.done ?_
                      refine T.seq ?_
                      refine T.region ?_
                      refine LW.q rfl (Qt.move rfl) ?_
                      first | refine LW.q rfl (Qt.eqlNil (by kernel_rfl) rfl rfl) ?_ | refine LW.q rfl (Qt.eqlNN (by kernel_rfl) rfl rfl) ?_
                      refine LW.q rfl (Qt.move rfl) ?_
                      first | refine LW.gF (t := 231) rfl rfl ?_ | refine LW.gF (t := 231) rfl (decide_eq_false (by omega)) ?_ | refine LW.gF (t := 231) rfl (by omega) ?_
                      refine LW.q rfl (Qt.move rfl) ?_
                      refine LW.q rfl (Qt.neq rfl rfl) ?_
                      refine LW.q rfl (Qt.pick rfl rfl) ?_
                      refine LW.q rfl (Qt.move rfl) ?_
                      first | refine LW.gF (t := 235) rfl rfl ?_ | refine LW.gF (t := 235) rfl (decide_eq_false (by omega)) ?_ | refine LW.gF (t := 235) rfl (by omega) ?_
                      refine LW.q rfl (Qt.move rfl) ?_
                      refine LW.q rfl (Qt.move rfl) ?_
                      refine LW.e rfl (Ef.call (Rl.records B R3 (R3.map fun x => (x.mark, x.r.b)) q3 q4 cq3 cq4 R3.length rfl hRn rfl) Tryd.func30 rfl rfl rfl ?_)
                      rintro _ _ ⟨rfl, rfl⟩
                      try simp only [List.cons_append, List.nil_append]
                      first | refine LW.q rfl (Qt.notP rfl) ?_ | refine LW.q rfl (Qt.notB rfl) ?_
                      refine LW.q rfl (Qt.pick rfl rfl) ?_
                      refine LW.done ?_
                      first | refine T.condF rfl ?_ | refine T.condPF rfl (by omega) ?_ | refine T.condBF rfl (by omega) ?_
                      refine T.skip ?_
                      exact ⟨_, ⟨_, W6, S6, gl2, p4, none, a4, 0, ⟨y2, y3, z1, z2, by omega, by omega⟩, (updS rfl (updS rfl (updS rfl (updS rfl (updS rfl (updS rfl (updS rfl (updS rfl (updS rfl rfl))))))))), rfl⟩, Sub.any⟩
                  · skip
                    try replace m0 := of_decide_eq_false m0
                    refine LW.s rfl ?_
                    refine LW.s rfl ?_
                    refine LW.s rfl ?_
                    refine LW.s rfl ?_
                    refine LW.q rfl (Qt.pick rfl rfl) ?_
                    refine LW.done ?_
                    first | refine T.condF rfl ?_ | refine T.condPF rfl (by omega) ?_ | refine T.condBF rfl (by omega) ?_
                    have oc := ho.cr sc[k].keep sc[k].t0 sc[k].t1
                    have ocl := DD.crash_len ho sc[k].keep sc[k].t0 sc[k].t1
                    obtain ⟨S5, hS5⟩ : ∃ S5, (⟨Sc, []⟩ : DD).crash sc[k].keep sc[k].t0 sc[k].t1 = ⟨S5, []⟩ := ⟨_, rfl⟩
                    have oce : DD.lays ⟨Sc, []⟩ (fun i => some (rAmt false sc[k].keep sc[k].t0 sc[k].t1 i)) 0 = S5 := congrArg DD.secs hS5
                    rw [hS5] at oc ocl
                    have ocl6 : S5.length = 6 := ocl.trans hsl
                    refine T.skip ?_
                    refine T.seq ?_
                    refine T.region ?_
                    refine LW.q rfl (Qt.move rfl) ?_
                    refine LW.q rfl (Qt.fieldAddr (off := 3) (by kernel_rfl) rfl) ?_
                    first | refine LW.q rfl (Qt.load (by kernel_rfl) rfl rfl) ?_ | refine LW.q rfl (Qt.load (by kernel_rfl) rfl (map_at _ _ _ (by omega))) ?_ | refine LW.q rfl (Qt.load (by kernel_rfl) rfl (flat_cell0 _ _ _ (by intros; rfl) _ (by omega) (by rfl))) ?_ | refine LW.q rfl (Qt.load (by kernel_rfl) rfl (flat_cell _ _ _ (by intros; rfl) _ _ (by omega) (by rfl))) ?_ | refine LW.q rfl (Qt.load (by kernel_rfl) rfl (bytes_at _ _ (by omega))) ?_
                    refine LW.q rfl (Qt.fieldAddr (off := 4) (by kernel_rfl) rfl) ?_
                    refine LW.q rfl (Qt.indexA 0 (len := 2) (e := 3) (sz := 1) (by kernel_rfl) rfl rfl rfl (by omega)) ?_
                    first | refine LW.q rfl (Qt.load (by kernel_rfl) rfl rfl) ?_ | refine LW.q rfl (Qt.load (by kernel_rfl) rfl (map_at _ _ _ (by omega))) ?_ | refine LW.q rfl (Qt.load (by kernel_rfl) rfl (flat_cell0 _ _ _ (by intros; rfl) _ (by omega) (by rfl))) ?_ | refine LW.q rfl (Qt.load (by kernel_rfl) rfl (flat_cell _ _ _ (by intros; rfl) _ _ (by omega) (by rfl))) ?_ | refine LW.q rfl (Qt.load (by kernel_rfl) rfl (bytes_at _ _ (by omega))) ?_
                    refine LW.q rfl (Qt.fieldAddr (off := 4) (by kernel_rfl) rfl) ?_
                    refine LW.q rfl (Qt.indexA 1 (len := 2) (e := 3) (sz := 1) (by kernel_rfl) rfl rfl rfl (by omega)) ?_
                    first | refine LW.q rfl (Qt.load (by kernel_rfl) rfl rfl) ?_ | refine LW.q rfl (Qt.load (by kernel_rfl) rfl (map_at _ _ _ (by omega))) ?_ | refine LW.q rfl (Qt.load (by kernel_rfl) rfl (flat_cell0 _ _ _ (by intros; rfl) _ (by omega) (by rfl))) ?_ | refine LW.q rfl (Qt.load (by kernel_rfl) rfl (flat_cell _ _ _ (by intros; rfl) _ _ (by omega) (by rfl))) ?_ | refine LW.q rfl (Qt.load (by kernel_rfl) rfl (bytes_at _ _ (by omega))) ?_
                    refine LW.e rfl (Ef.call (Dk.crashF B bd (⟨Sc, []⟩ : DD) (.slice ka sc[k].keep.length kc) sc[k].keep sc[k].t0 sc[k].t1 hkv (by simp [DD.write])) Tryd.func37 rfl rfl rfl ?_)
                    rintro _ _ ⟨rfl, rfl⟩
                    try simp only [List.cons_append, List.nil_append]
                    rw [hS5]
                    refine LW.done ?_
                    refine T.seq ?_
                    refine T.region ?_
                    first | refine LW.q rfl (Qt.loadAgg [_, _] (by kernel_rfl) rfl ⟨rfl, rfl, trivial⟩) ?_ | refine LW.q rfl (Qt.loadAgg [_, _] (by kernel_rfl) rfl (by exact rdl_flat _ _ _ (by intros; rfl) _ (by omega))) ?_
                    refine LW.q rfl (Qt.fieldAddr (off := 3) (by kernel_rfl) rfl) ?_
                    first | refine LW.q rfl (Qt.load (by kernel_rfl) rfl rfl) ?_ | refine LW.q rfl (Qt.load (by kernel_rfl) rfl (map_at _ _ _ (by omega))) ?_ | refine LW.q rfl (Qt.load (by kernel_rfl) rfl (flat_cell0 _ _ _ (by intros; rfl) _ (by omega) (by rfl))) ?_ | refine LW.q rfl (Qt.load (by kernel_rfl) rfl (flat_cell _ _ _ (by intros; rfl) _ _ (by omega) (by rfl))) ?_ | refine LW.q rfl (Qt.load (by kernel_rfl) rfl (bytes_at _ _ (by omega))) ?_
                    refine LW.q rfl (Qt.fieldAddr (off := 4) (by kernel_rfl) rfl) ?_
                    refine LW.q rfl (Qt.indexA 0 (len := 2) (e := 3) (sz := 1) (by kernel_rfl) rfl rfl rfl (by omega)) ?_
                    first | refine LW.q rfl (Qt.load (by kernel_rfl) rfl rfl) ?_ | refine LW.q rfl (Qt.load (by kernel_rfl) rfl (map_at _ _ _ (by omega))) ?_ | refine LW.q rfl (Qt.load (by kernel_rfl) rfl (flat_cell0 _ _ _ (by intros; rfl) _ (by omega) (by rfl))) ?_ | refine LW.q rfl (Qt.load (by kernel_rfl) rfl (flat_cell _ _ _ (by intros; rfl) _ _ (by omega) (by rfl))) ?_ | refine LW.q rfl (Qt.load (by kernel_rfl) rfl (bytes_at _ _ (by omega))) ?_
                    refine LW.q rfl (Qt.fieldAddr (off := 4) (by kernel_rfl) rfl) ?_
                    refine LW.q rfl (Qt.indexA 1 (len := 2) (e := 3) (sz := 1) (by kernel_rfl) rfl rfl rfl (by omega)) ?_
                    first | refine LW.q rfl (Qt.load (by kernel_rfl) rfl rfl) ?_ | refine LW.q rfl (Qt.load (by kernel_rfl) rfl (map_at _ _ _ (by omega))) ?_ | refine LW.q rfl (Qt.load (by kernel_rfl) rfl (flat_cell0 _ _ _ (by intros; rfl) _ (by omega) (by rfl))) ?_ | refine LW.q rfl (Qt.load (by kernel_rfl) rfl (flat_cell _ _ _ (by intros; rfl) _ _ (by omega) (by rfl))) ?_ | refine LW.q rfl (Qt.load (by kernel_rfl) rfl (bytes_at _ _ (by omega))) ?_
                    refine LW.e rfl (Ef.call (Rf.crash B p q a c 6 0 false (.slice ka sc[k].keep.length kc) sc[k].keep sc[k].t0 sc[k].t1 Sc [] ho (by omega) hkv) Tryd.func38 rfl rfl rfl ?_)
                    rintro _ _ ⟨p2, a2, rfl, rfl⟩
                    try simp only [List.cons_append, List.nil_append]
                    rw [oce]
                    refine LW.e0 rfl (Ef.store [_, _] (by kernel_rfl) rfl rfl rfl rfl (by simp) ?_)
                    try simp only [splice, List.length_cons, List.length_nil, List.drop_succ_cons, List.cons_append, List.take_succ_cons, List.take_zero, List.drop_zero, List.nil_append, List.append_nil]
                    refine LW.done ?_
                    refine T.seq ?_
                    refine T.region ?_
                    refine LW.q rfl (Qt.move rfl) ?_
                    refine LW.q rfl (Qt.move rfl) ?_
                    refine LW.q rfl (Qt.move rfl) ?_
                    refine LW.e rfl (Ef.call (Wl.openE B bd ⟨S5, []⟩ first count (by omega) (by show first + count ≤ S5.length; omega) (by simp) oc) Tryd.func25 rfl rfl rfl ?_)
                    rintro _ _ ⟨gl2, q3, cq3, R3, kk, ss, u1, u2, u3, rfl, rfl⟩
                    try simp only [List.cons_append, List.nil_append]
                    obtain ⟨al, hal⟩ : ∃ al, allD ⟨S5, []⟩ first count = al := ⟨_, rfl⟩
                    have hall : al.length = count * 256 := by rw [← hal]; exact allD_length oc count (by show first + count ≤ S5.length; omega)
                    rw [hal] at u1 u3
                    rw [hal]
                    obtain ⟨W6, hW6⟩ : ∃ W6, (⟨first, count, al.take kk, ss, kk⟩ : Wl) = W6 := ⟨_, rfl⟩
                    have y1 := wipe_ok (W := W6) (al := al) (k := count - kk / 256) (n := kk / 256) oc (by rw [← hW6]; show first + _ ≤ S5.length; omega)
                    have y2 : (wipeD W6 al ⟨S5, []⟩ (kk / 256) (count - kk / 256)).sync.Ok := y1.1.sy
                    have y3 : (wipeD W6 al ⟨S5, []⟩ (kk / 256) (count - kk / 256)).sync.secs.length = 6 := by rw [DD.sync_len y1.1, y1.2]; exact ocl6
                    have z1 : W6.first = first := by rw [← hW6]
                    have z2 : W6.count = count := by rw [← hW6]
                    have z3 : W6.st.length = kk := by rw [← hW6]; exact u3
                    have z4 : W6.dur = kk := by rw [← hW6]
                    obtain ⟨S6, hS6⟩ : ∃ S6, (wipeD W6 al ⟨S5, []⟩ (kk / 256) (count - kk / 256)).sync = ⟨S6, []⟩ := ⟨_, rfl⟩
                    rw [hS6] at y2 y3
                    rw [hW6, hS6]
                    have hRn : R3.length < 2 ^ 40 := by have := congrArg (fun x => x.2.2.length) u1; obtain ⟨ds, _, k2, _, k4⟩ := scan_back (count * 256 + 1) 0 0 al (Nat.zero_le _); rw [k2] at this; simp only [length_logR, List.length_map] at this; have h5 := length_logB_le 0 0 ds; omega
                    refine LW.q rfl (Qt.move rfl) ?_
                    refine LW.q rfl (Qt.extract rfl rfl) ?_
                    refine LW.q rfl (Qt.extract rfl rfl) ?_
                    refine LW.q rfl (Qt.extract rfl rfl) ?_
                    refine LW.q rfl (Qt.assign rfl) ?_
                    refine LW.q rfl (Qt.assign rfl) ?_
                    refine LW.q rfl (Qt.assign rfl) ?_
                    refine LW.done ?_
                    refine T.seq ?_
                    refine T.region ?_
                    first | refine LW.q rfl (Qt.loadAgg [_, _] (by kernel_rfl) rfl ⟨rfl, rfl, trivial⟩) ?_ | refine LW.q rfl (Qt.loadAgg [_, _] (by kernel_rfl) rfl (by exact rdl_flat _ _ _ (by intros; rfl) _ (by omega))) ?_
                    refine LW.q rfl (Qt.move rfl) ?_
                    refine LW.q rfl (Qt.move rfl) ?_
                    refine LW.e rfl (Ef.call (Rl.open B ⟨S5, []⟩ p2 none a2 0 6 0 ocl6 rfl oc (by omega) first count _ _ rfl rfl (by omega) (by omega)) Tryd.func29 rfl rfl rfl ?_)
                    rintro _ _ ⟨p4, a4, kk2, ss2, R4, q4, cq4, x1, rfl, rfl⟩
                    try simp only [List.cons_append, List.nil_append]
                    rw [hal, u1] at x1
                    injection x1 with x1 x2
                    injection x2 with x2 x3
                    subst x1
                    subst x2
                    subst x3
                    rw [hal, List.length_map, hW6, hS6]
                    refine LW.q rfl (Qt.move rfl) ?_
                    refine LW.q rfl (Qt.extract rfl rfl) ?_
                    refine LW.q rfl (Qt.extract rfl rfl) ?_
                    refine LW.q rfl (Qt.extract rfl rfl) ?_
                    refine LW.q rfl (Qt.extract rfl rfl) ?_
                    refine LW.e0 rfl (Ef.store [_, _] (by kernel_rfl) rfl rfl rfl rfl (by simp) ?_)
                    try simp only [splice, List.length_cons, List.length_nil, List.drop_succ_cons, List.cons_append, List.take_succ_cons, List.take_zero, List.drop_zero, List.nil_append, List.append_nil]
                    refine LW.e0 rfl (Ef.store [_, _, _, _, _] (by kernel_rfl) rfl rfl rfl rfl (by simp) ?_)
                    try simp only [splice, List.length_cons, List.length_nil, List.drop_succ_cons, List.cons_append, List.take_succ_cons, List.take_zero, List.drop_zero, List.nil_append, List.append_nil]
                    refine LW.q rfl (Qt.assign rfl) ?_
                    refine LW.done ?_
                    refine T.seq ?_
                    refine T.region ?_
                    refine LW.q rfl (Qt.move rfl) ?_
                    first | refine LW.q rfl (Qt.eqlNil (by kernel_rfl) rfl rfl) ?_ | refine LW.q rfl (Qt.eqlNN (by kernel_rfl) rfl rfl) ?_
                    refine LW.q rfl (Qt.move rfl) ?_
                    first | refine LW.gF (t := 231) rfl rfl ?_ | refine LW.gF (t := 231) rfl (decide_eq_false (by omega)) ?_ | refine LW.gF (t := 231) rfl (by omega) ?_
                    refine LW.q rfl (Qt.move rfl) ?_
                    refine LW.q rfl (Qt.neq rfl rfl) ?_
                    refine LW.q rfl (Qt.pick rfl rfl) ?_
                    refine LW.q rfl (Qt.move rfl) ?_
                    first | refine LW.gF (t := 235) rfl rfl ?_ | refine LW.gF (t := 235) rfl (decide_eq_false (by omega)) ?_ | refine LW.gF (t := 235) rfl (by omega) ?_
                    refine LW.q rfl (Qt.move rfl) ?_
                    refine LW.q rfl (Qt.move rfl) ?_
                    refine LW.e rfl (Ef.call (Rl.records B R3 (R3.map fun x => (x.mark, x.r.b)) q3 q4 cq3 cq4 R3.length rfl hRn rfl) Tryd.func30 rfl rfl rfl ?_)
                    rintro _ _ ⟨rfl, rfl⟩
                    try simp only [List.cons_append, List.nil_append]
                    first | refine LW.q rfl (Qt.notP rfl) ?_ | refine LW.q rfl (Qt.notB rfl) ?_
                    refine LW.q rfl (Qt.pick rfl rfl) ?_
                    refine LW.done ?_
                    first | refine T.condF rfl ?_ | refine T.condPF rfl (by omega) ?_ | refine T.condBF rfl (by omega) ?_
                    refine T.skip ?_
                    exact ⟨_, ⟨_, W6, S6, gl2, p4, none, a4, 0, ⟨y2, y3, z1, z2, by omega, by omega⟩, (updS rfl (updS rfl (updS rfl (updS rfl (updS rfl (updS rfl (updS rfl (updS rfl (updS rfl rfl))))))))), rfl⟩, Sub.any⟩
                · skip
                  refine T.skip ?_
                  exact ⟨_, ⟨_, W, Sc, gl, p, q, a, c, ⟨ho, hsl, hwf, hwc, hwl, hwd⟩, (updS rfl (updS rfl (updS rfl (updS rfl (updS rfl (updS rfl (updS rfl (updS rfl (updS rfl rfl))))))))), rfl⟩, Sub.any⟩
      rintro fz lz ⟨f0, W, Sc, gl, p, q, a, c, ⟨ho, hsl, hwf, hwc, hwl, hwd⟩, rfl, rfl⟩
      try simp only [List.cons_append, List.nil_append]
      refine T.seq ?_
      refine T.drawBl 30 none (by kernel_rfl) (Nat.le_of_ble_eq_true rfl) (by kernel_rfl) ?_
      refine RW.q 0 rfl rfl (by kernel_rfl) Sub.any (Qt.move rfl) ?_
      refine RW.q 2 rfl rfl (by kernel_rfl) Sub.any (Qt.fieldAddr0 (by kernel_rfl) rfl) ?_
      first | refine RW.q 3 rfl rfl (by kernel_rfl) Sub.any (Qt.load (by kernel_rfl) rfl rfl) ?_ | refine RW.q 3 rfl rfl (by kernel_rfl) Sub.any (Qt.load (by kernel_rfl) rfl (map_at _ _ _ (by omega))) ?_ | refine RW.q 3 rfl rfl (by kernel_rfl) Sub.any (Qt.load (by kernel_rfl) rfl (flat_cell0 _ _ _ (by intros; rfl) _ (by omega) (by rfl))) ?_ | refine RW.q 3 rfl rfl (by kernel_rfl) Sub.any (Qt.load (by kernel_rfl) rfl (flat_cell _ _ _ (by intros; rfl) _ _ (by omega) (by rfl))) ?_ | refine RW.q 3 rfl rfl (by kernel_rfl) Sub.any (Qt.load (by kernel_rfl) rfl (bytes_at _ _ (by omega))) ?_
      first | refine RW.q 4 rfl rfl (by kernel_rfl) Sub.any (Qt.lenSt (by kernel_rfl) rfl) ?_ | refine RW.q 4 rfl rfl (by kernel_rfl) Sub.any (Qt.lenS (by kernel_rfl) rfl) ?_
      refine RW.one 1 (by kernel_rfl) ?_
      refine RO.eS rfl rfl (Ef.call (Wl.endOf B gl bd W (by omega)) Tryd.func39 rfl rfl rfl ?_)
      rintro _ _ ⟨rfl, rfl⟩
      try simp only [List.cons_append, List.nil_append]
      refine ⟨Sub.any, ?_⟩
      refine RW.q 5 rfl rfl (by kernel_rfl) Sub.any (Qt.neq rfl rfl) ?_
      refine RW.q 6 rfl rfl (by kernel_rfl) Sub.any (Qt.move rfl) ?_
      first | refine RW.gF (t := 247) rfl rfl ?_ | refine RW.gF (t := 247) rfl (decide_eq_false (by omega)) ?_ | refine RW.gF (t := 247) rfl (by omega) ?_
      refine RW.q 7 rfl rfl (by kernel_rfl) Sub.any (Qt.move rfl) ?_
      refine RW.q 9 rfl rfl (by kernel_rfl) Sub.any (Qt.move rfl) ?_
      refine RW.q 10 rfl rfl (by kernel_rfl) Sub.any (Qt.mul rfl rfl (wr64 (by omega) (by omega))) ?_
      refine RW.q 11 rfl rfl (by kernel_rfl) Sub.any (Qt.fieldAddr0 (by kernel_rfl) rfl) ?_
      first | refine RW.q 12 rfl rfl (by kernel_rfl) Sub.any (Qt.load (by kernel_rfl) rfl rfl) ?_ | refine RW.q 12 rfl rfl (by kernel_rfl) Sub.any (Qt.load (by kernel_rfl) rfl (map_at _ _ _ (by omega))) ?_ | refine RW.q 12 rfl rfl (by kernel_rfl) Sub.any (Qt.load (by kernel_rfl) rfl (flat_cell0 _ _ _ (by intros; rfl) _ (by omega) (by rfl))) ?_ | refine RW.q 12 rfl rfl (by kernel_rfl) Sub.any (Qt.load (by kernel_rfl) rfl (flat_cell _ _ _ (by intros; rfl) _ _ (by omega) (by rfl))) ?_ | refine RW.q 12 rfl rfl (by kernel_rfl) Sub.any (Qt.load (by kernel_rfl) rfl (bytes_at _ _ (by omega))) ?_
      first | refine RW.q 13 rfl rfl (by kernel_rfl) Sub.any (Qt.lenSt (by kernel_rfl) rfl) ?_ | refine RW.q 13 rfl rfl (by kernel_rfl) Sub.any (Qt.lenS (by kernel_rfl) rfl) ?_
      refine RW.q 14 rfl rfl (by kernel_rfl) Sub.any (Qt.sub rfl rfl (wr64 (by omega) (by omega))) ?_
      refine RW.one 8 (by kernel_rfl) ?_
      refine RO.eS rfl rfl (Ef.call (Wl.left B gl bd W (by omega) (by omega)) Tryd.func40 rfl rfl rfl ?_)
      rintro _ _ ⟨rfl, rfl⟩
      try simp only [List.cons_append, List.nil_append]
      refine ⟨Sub.any, ?_⟩
      refine RW.q 15 rfl rfl (by kernel_rfl) Sub.any (Qt.neq rfl rfl) ?_
      refine RW.q 16 rfl rfl (by kernel_rfl) Sub.any (Qt.pick rfl rfl) ?_
      refine RW.q 17 rfl rfl (by kernel_rfl) Sub.any (Qt.move rfl) ?_
      first | refine RW.gF (t := 258) rfl rfl ?_ | refine RW.gF (t := 258) rfl (decide_eq_false ((by rw [hwc]; simp))) ?_ | refine RW.gF (t := 258) rfl ((by rw [hwc]; simp)) ?_
      refine RW.q 18 rfl rfl (by kernel_rfl) Sub.any (Qt.move rfl) ?_
      refine RW.q 20 rfl rfl (by kernel_rfl) Sub.any (Qt.fieldAddr (off := 2) (by kernel_rfl) rfl) ?_
      first | refine RW.q 21 rfl rfl (by kernel_rfl) Sub.any (Qt.load (by kernel_rfl) rfl rfl) ?_ | refine RW.q 21 rfl rfl (by kernel_rfl) Sub.any (Qt.load (by kernel_rfl) rfl (map_at _ _ _ (by omega))) ?_ | refine RW.q 21 rfl rfl (by kernel_rfl) Sub.any (Qt.load (by kernel_rfl) rfl (flat_cell0 _ _ _ (by intros; rfl) _ (by omega) (by rfl))) ?_ | refine RW.q 21 rfl rfl (by kernel_rfl) Sub.any (Qt.load (by kernel_rfl) rfl (flat_cell _ _ _ (by intros; rfl) _ _ (by omega) (by rfl))) ?_ | refine RW.q 21 rfl rfl (by kernel_rfl) Sub.any (Qt.load (by kernel_rfl) rfl (bytes_at _ _ (by omega))) ?_
      refine RW.one 19 (by kernel_rfl) ?_
      refine RO.eS rfl rfl (Ef.call (Wl.durable B gl bd W (by omega)) Tryd.func41 rfl rfl rfl ?_)
      rintro _ _ ⟨rfl, rfl⟩
      try simp only [List.cons_append, List.nil_append]
      refine ⟨Sub.any, ?_⟩
      refine RW.q 22 rfl rfl (by kernel_rfl) Sub.any (Qt.neq rfl rfl) ?_
      refine RW.q 23 rfl rfl (by kernel_rfl) Sub.any (Qt.pick rfl rfl) ?_
      refine RW.q 24 rfl rfl (by kernel_rfl) Sub.any (Qt.move rfl) ?_
      first | refine RW.gF (t := 265) rfl rfl ?_ | refine RW.gF (t := 265) rfl (decide_eq_false (by omega)) ?_ | refine RW.gF (t := 265) rfl (by omega) ?_
      refine RW.q 25 rfl rfl (by kernel_rfl) Sub.any (Qt.move rfl) ?_
      first | refine RW.q 26 rfl rfl (by kernel_rfl) Sub.any (Qt.loadAgg [_, _] (by kernel_rfl) rfl ⟨rfl, rfl, trivial⟩) ?_ | refine RW.q 26 rfl rfl (by kernel_rfl) Sub.any (Qt.loadAgg [_, _] (by kernel_rfl) rfl (by exact rdl_flat _ _ _ (by intros; rfl) _ (by omega))) ?_
      refine RW.one 27 (by kernel_rfl) ?_
      refine RO.eS rfl rfl (Ef.call (Rl.same B bd ⟨Sc, []⟩ p q a c 6 0 hsl rfl ho (by omega)) Tryd.func42 rfl rfl rfl ?_)
      rintro _ _ ⟨rfl, rfl⟩
      try simp only [List.cons_append, List.nil_append]
      refine ⟨Sub.any, ?_⟩
      first | refine RW.q 28 rfl rfl (by kernel_rfl) Sub.any (Qt.notP rfl) ?_ | refine RW.q 28 rfl rfl (by kernel_rfl) Sub.any (Qt.notB rfl) ?_
      refine RW.q 29 rfl rfl (by kernel_rfl) Sub.any (Qt.pick rfl rfl) ?_
      refine RW.done (by rfl) ?_
      simp only [List.drop_succ_cons, List.drop_zero, List.drop_nil]
      refine LW.done ?_
      first | refine T.condF rfl ?_ | refine T.condPF rfl (by omega) ?_ | refine T.condBF rfl (by omega) ?_
      refine T.skip ?_
      refine T.region ?_
      refine LW.q rfl (Qt.add rfl rfl (wr64 (by omega) (by omega))) ?_
      refine LW.q rfl (Qt.move rfl) ?_
      refine LW.done ?_
      refine ⟨_, ?_, _, ⟨_, k + 1, W, Sc, gl, p, q, a, c, ⟨by omega, ho, hsl, hwf, hwc, hwl, hwd⟩, rfl, (updS rfl (updS rfl (updS rfl (updS rfl (updS rfl (updS rfl (updS rfl (updS rfl (updS rfl rfl))))))))), rfl⟩, Sub.any⟩
      first | omega | (simp; omega)
    · skip
      refine T.exit ?_
      refine T.seq ?_
      refine T.region ?_
      refine LW.q rfl (Qt.assign rfl) ?_
      refine LW.done ?_
      refine T.ret ?_
      exact ⟨.inl rfl, _, _, res [_] rfl ⟨rvT rfl, trivial⟩, ⟨rfl, rfl⟩, Sub.any⟩
end Go.Proofs.YtjjhbpjbngdlnaaDoor
