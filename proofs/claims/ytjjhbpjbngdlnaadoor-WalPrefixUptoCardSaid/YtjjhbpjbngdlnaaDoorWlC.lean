/- The package wal: Append. Conditions: sizes; that what is handed in can be read. -/
import Derived.Test.YtjjhbpjbngdlnaaDoorWlB
set_option linter.unusedSimpArgs false
set_option linter.unusedVariables false
namespace Go.Proofs.YtjjhbpjbngdlnaaDoor
open Go.RowKit

theorem RdV.takeAll {B : Base} {S : List Assn} {a : Option Addr} {m c : Nat} {cs : List Value} (h : RdV B S (.slice a m c) cs) (c' : Nat) : RdV B S (.slice a m c') cs := by
  obtain ⟨a2, c2, e, h⟩ := h
  injection e with e1 e2 _
  subst e1; subst e2
  exact ⟨a, c', rfl, h⟩
instance (priority := low) (S l r m : List Assn) [k : TakeL S l r] [t : SubC r m] : SubC l (S ++ m) := ⟨fun _ H => by
  obtain ⟨h1, h2, d, a, b, e1, e2⟩ := Has.split (k.take _ H)
  exact Has.join d a b e1 (t.sub _ e2)⟩
theorem Fn.own {P : Program} {B : Base} {g : FuncId} {args : Array Value} {pre : List Assn} {R : Value → List Assn → Prop} (h : Fn P B g args pre R) : Fn P B g args pre (fun v l => R v l ∧ ∃ w F, Own B w (l ++ F)) := ⟨fun w F ho => (h.run w F ho).mono fun _ w' ⟨v, l, a, b, c⟩ => ⟨v, l, a, ⟨b, w', F, c⟩, c⟩⟩
theorem Cd.putP (B : Base) (S : List Assn) (v : Value) (b : List UInt8) (m : Nat) (hm : b.length = m) (n : UInt64) (i : Int) (k : Nat) (hi : i = k) (hk : k ≤ 8) (hv : RdV B S v (bytesV b)) (hb : m < 2 ^ 40) : Fn Tryd.prog B 53 #[v, .int .u64 n.toNat, .int .i64 i] S (fun u l => ∃ p c, u = .slice p (m + k) c ∧ (0 < m + k → ∃ g, p = some ⟨g, 0, none⟩) ∧ l = rB (.slice p (m + k) c) (m + k) (b ++ be n k) :: S) := (Cd.put B S v b m hm n i k hi hk hv hb).own.mono fun v l ⟨⟨p, c, e1, e2⟩, w, F, ho⟩ => by
  subst e2
  rw [List.cons_append] at ho
  exact ⟨p, c, e1, (ho.slice_at (p := p) (m := m + k) (c := c)).2.1, rfl⟩
/-- Append: the log then, what it answers. -/
def addW (W : Wl) (data : List UInt8) : Wl × Int × Int :=
  if data.length = 0 then (W, 0, 5)
  else if 1024 < data.length then (W, 0, 2)
  else if W.count * 256 < W.st.length + 8 + data.length then (W, 0, 3)
  else ({ W with st := W.st ++ be (UInt64.ofInt data.length) 4 ++ be (sealW W.sum W.st.length data).toUInt64 4 ++ data, sum := sealW W.sum W.st.length data }, (W.st.length : Int) + 8 + data.length, 0)

set_option maxHeartbeats 4000000 in
set_option maxRecDepth 100000 in
theorem Wl.append_no (B : Base) (S : List Assn) (g b : Nat) (W : Wl) (p : Option Addr) (cc : Nat) (a : Option Addr) (c : Nat) (bs : List (List UInt8)) (hv : PartsV B S (.slice a bs.length c) bs) (hc : bs.length ≤ c) (hn : bs.length < 2 ^ 32) (hN2 : bs.flatten.length ≤ 2 ^ 40) (hcnt : W.count ≤ 4096) (hst : W.st.length ≤ W.count * 256) (code : Int)
    (h : (bs.flatten.length = 0 ∧ code = 5) ∨ (bs.flatten.length ≠ 0 ∧ 1024 < bs.flatten.length ∧ code = 2) ∨ (bs.flatten.length ≠ 0 ∧ bs.flatten.length ≤ 1024 ∧ W.count * 256 < W.st.length + 8 + bs.flatten.length ∧ code = 3)) :
    Fn Tryd.prog B 26 #[.pointer (some ⟨g, 0, none⟩), .slice a bs.length c] (wlB g b W p cc :: S) (fun u l => u = .tuple #[.int .i64 0, .int .i64 code] ∧ l = wlB g b W p cc :: S) := by
  obtain ⟨N, hN⟩ : ∃ N, bs.flatten.length = N := ⟨_, rfl⟩
  rw [hN] at h hN2
  refine Fn.enter2 75 Tryd.func26 rfl rfl (Nat.le_of_ble_eq_true rfl) (fun F => ?_)
  try simp only [List.cons_append, List.nil_append]
  refine T.seq ?_
  refine T.region ?_
  refine LW.q rfl (Qt.assign rfl) ?_
  refine LW.q rfl (Qt.assign rfl) ?_
  refine LW.done ?_
  refine T.seq ?_
  refine T.region ?_
  refine LW.q rfl (Qt.move rfl) ?_
  refine LW.e rfl (Ef.call (Jn.join B S a c bs hv hc hn N hN hN2) Tryd.func62 rfl rfl rfl ?_)
  rintro _ _ ⟨p8, c8, c9, rfl, hp8, rfl⟩
  try simp only [List.cons_append, List.nil_append]
  refine LW.q rfl (Qt.assign rfl) ?_
  refine LW.done ?_
  refine T.seq ?_
  refine T.block ?_
  refine T.seq ?_
  refine T.region ?_
  refine LW.q rfl (Qt.move rfl) ?_
  refine LW.q rfl (Qt.len (e := 5) (sz := 1) (by kernel_rfl) rfl) ?_
  refine LW.q rfl (Qt.eql rfl rfl) ?_
  refine LW.q rfl (Qt.assign rfl) ?_
  refine LW.done ?_
  refine T.condP rfl (fun h0 => ?_) (fun h0 => ?_)
  · skip
    obtain rfl : code = 5 := by omega
    refine T.seq ?_
    refine T.region ?_
    refine LW.q rfl (Qt.assign rfl) ?_
    refine LW.q rfl (Qt.assign rfl) ?_
    refine LW.done ?_
    refine T.ret ?_
    exact ⟨.inl rfl, _, _, res [_, _] rfl ⟨rvT rfl, rvT rfl, trivial⟩, ⟨rfl, rfl⟩, Sub.any⟩
  · skip
    refine T.seq ?_
    refine T.region ?_
    refine LW.q rfl (Qt.move rfl) ?_
    refine LW.q rfl (Qt.len (e := 5) (sz := 1) (by kernel_rfl) rfl) ?_
    refine LW.q rfl (Qt.gtr rfl rfl) ?_
    refine LW.q rfl (Qt.assign rfl) ?_
    refine LW.done ?_
    refine T.condP rfl (fun h1 => ?_) (fun h1 => ?_)
    · skip
      obtain rfl : code = 2 := by omega
      refine T.seq ?_
      refine T.region ?_
      refine LW.q rfl (Qt.assign rfl) ?_
      refine LW.q rfl (Qt.assign rfl) ?_
      refine LW.done ?_
      refine T.ret ?_
      exact ⟨.inl rfl, _, _, res [_, _] rfl ⟨rvT rfl, rvT rfl, trivial⟩, ⟨rfl, rfl⟩, Sub.any⟩
    · skip
      obtain ⟨hbig, rfl⟩ : W.count * 256 < W.st.length + 8 + N ∧ code = 3 := by omega
      refine T.seq ?_
      refine T.drawAll 16 (by kernel_rfl) (Nat.le_of_ble_eq_true rfl) (by kernel_rfl) ?_
      refine RW.q 0 rfl rfl (by kernel_rfl) (Sub.refl _) (Qt.move rfl) ?_
      refine RW.q 1 rfl rfl (by kernel_rfl) (Sub.refl _) (Qt.nilCheck rfl) ?_
      refine RW.q 2 rfl rfl (by kernel_rfl) (Sub.refl _) (Qt.fieldAddr (off := 3) (by kernel_rfl) rfl) ?_
      first | refine RW.q 3 rfl rfl (by kernel_rfl) (Sub.refl _) (Qt.load (by kernel_rfl) rfl rfl) ?_ | refine RW.q 3 rfl rfl (by kernel_rfl) (Sub.refl _) (Qt.load (by kernel_rfl) rfl (map_at _ _ _ (by omega))) ?_ | refine RW.q 3 rfl rfl (by kernel_rfl) (Sub.refl _) (Qt.load (by kernel_rfl) rfl (flat_cell0 _ _ _ (by intros; rfl) _ (by omega) (by rfl))) ?_ | refine RW.q 3 rfl rfl (by kernel_rfl) (Sub.refl _) (Qt.load (by kernel_rfl) rfl (flat_cell _ _ _ (by intros; rfl) _ _ (by omega) (by rfl))) ?_ | refine RW.q 3 rfl rfl (by kernel_rfl) (Sub.refl _) (Qt.load (by kernel_rfl) rfl (bytes_at _ _ (by omega))) ?_
      refine RW.q 4 rfl rfl (by kernel_rfl) (Sub.refl _) (Qt.len (e := 5) (sz := 1) (by kernel_rfl) rfl) ?_
      refine RW.q 5 rfl rfl (by kernel_rfl) (Sub.refl _) (Qt.add rfl rfl (wr64 (by omega) (by omega))) ?_
      refine RW.q 6 rfl rfl (by kernel_rfl) (Sub.refl _) (Qt.move rfl) ?_
      refine RW.q 7 rfl rfl (by kernel_rfl) (Sub.refl _) (Qt.len (e := 5) (sz := 1) (by kernel_rfl) rfl) ?_
      refine RW.q 8 rfl rfl (by kernel_rfl) (Sub.refl _) (Qt.add rfl rfl (wr64 (by omega) (by omega))) ?_
      refine RW.q 9 rfl rfl (by kernel_rfl) (Sub.refl _) (Qt.move rfl) ?_
      refine RW.q 10 rfl rfl (by kernel_rfl) (Sub.refl _) (Qt.nilCheck rfl) ?_
      refine RW.q 11 rfl rfl (by kernel_rfl) (Sub.refl _) (Qt.fieldAddr0 (by kernel_rfl) rfl) ?_
      first | refine RW.q 12 rfl rfl (by kernel_rfl) (Sub.refl _) (Qt.loadAgg [_, _, _] (by kernel_rfl) rfl ⟨rfl, rfl, rfl, trivial⟩) ?_ | refine RW.q 12 rfl rfl (by kernel_rfl) (Sub.refl _) (Qt.loadAgg [_, _, _] (by kernel_rfl) rfl (by exact rdl_flat _ _ _ (by intros; rfl) _ (by omega))) ?_
      refine RW.one 13 (by kernel_rfl) ?_
      refine RO.e rfl rfl (Ef.call (Wl.size B (.pointer (some ⟨b, 0, none⟩)) W.first W.count hcnt) Tryd.func63 rfl rfl rfl ?_)
      rintro _ _ ⟨rfl, rfl⟩
      try simp only [List.cons_append, List.nil_append]
      refine ⟨Sub.any, ?_⟩
      refine RW.q 14 rfl rfl (by kernel_rfl) (Sub.refl _) (Qt.gtr rfl rfl) ?_
      refine RW.q 15 rfl rfl (by kernel_rfl) (Sub.refl _) (Qt.assign rfl) ?_
      refine RW.done (by rfl) ?_
      simp only [List.drop_succ_cons, List.drop_zero, List.drop_nil]
      refine LW.done ?_
      first | refine T.condT rfl ?_ | refine T.condPT rfl (by omega) ?_ | refine T.condBT rfl (by omega) ?_
      refine T.seq ?_
      refine T.region ?_
      refine LW.q rfl (Qt.assign rfl) ?_
      refine LW.q rfl (Qt.assign rfl) ?_
      refine LW.done ?_
      refine T.ret ?_
      exact ⟨.inl rfl, _, _, res [_, _] rfl ⟨rvT rfl, rvT rfl, trivial⟩, ⟨rfl, rfl⟩, Sub.any⟩
set_option maxHeartbeats 4000000 in
set_option maxRecDepth 100000 in
theorem Wl.append (B : Base) (S : List Assn) (g b : Nat) (W : Wl) (p : Option Addr) (cc : Nat) (hp : 0 < W.st.length → ∃ g, p = some ⟨g, 0, none⟩) (a : Option Addr) (c : Nat) (bs : List (List UInt8)) (hv : PartsV B S (.slice a bs.length c) bs) (hc : bs.length ≤ c) (hn : bs.length < 2 ^ 32) (hcnt : W.count ≤ 4096) (data : List UInt8) (hdata : bs.flatten = data) (h0 : data.length ≠ 0) (h1 : data.length ≤ 1024) (h2 : W.st.length + 8 + data.length ≤ W.count * 256) :
    Fn Tryd.prog B 26 #[.pointer (some ⟨g, 0, none⟩), .slice a bs.length c] (wlB g b W p cc :: rB (.slice p W.st.length cc) W.st.length W.st :: S) (fun u l => ∃ p' c', u = .tuple #[.int .i64 (addW W data).2.1, .int .i64 0] ∧ (0 < (addW W data).1.st.length → ∃ g, p' = some ⟨g, 0, none⟩) ∧ l = wlB g b (addW W data).1 p' c' :: rB (.slice p' (addW W data).1.st.length c') (addW W data).1.st.length (addW W data).1.st :: S) := by
  have hadd : addW W data = ({ W with st := W.st ++ be (UInt64.ofInt data.length) 4 ++ be (sealW W.sum W.st.length data).toUInt64 4 ++ data, sum := sealW W.sum W.st.length data }, (W.st.length : Int) + 8 + data.length, 0) := by
    unfold addW; rw [if_neg h0, if_neg (by omega), if_neg (by omega)]
  rw [hadd]
  obtain ⟨N, hN⟩ : ∃ N, data.length = N := ⟨_, rfl⟩
  obtain ⟨s, hs⟩ : ∃ s, sealW W.sum W.st.length data = s := ⟨_, rfl⟩
  rw [hN, hs]
  rw [hN] at h0 h1 h2
  refine Fn.enter2 75 Tryd.func26 rfl rfl (Nat.le_of_ble_eq_true rfl) (fun F => ?_)
  try simp only [List.cons_append, List.nil_append]
  refine T.seq ?_
  refine T.region ?_
  refine LW.q rfl (Qt.assign rfl) ?_
  refine LW.q rfl (Qt.assign rfl) ?_
  refine LW.done ?_
  refine T.seq ?_
  refine T.region ?_
  refine LW.q rfl (Qt.move rfl) ?_
  refine LW.e rfl (Ef.call (Jn.join B S a c bs hv hc hn N (by rw [hdata, hN]) (by omega)) Tryd.func62 rfl rfl rfl ?_)
  rintro _ _ ⟨p8, c8, c9, rfl, hp8, rfl⟩
  try simp only [List.cons_append, List.nil_append]
  rw [hdata]
  refine LW.q rfl (Qt.assign rfl) ?_
  refine LW.done ?_
  refine T.seq ?_
  refine T.block ?_
  refine T.seq ?_
  refine T.region ?_
  refine LW.q rfl (Qt.move rfl) ?_
  refine LW.q rfl (Qt.len (e := 5) (sz := 1) (by kernel_rfl) rfl) ?_
  refine LW.q rfl (Qt.eql rfl rfl) ?_
  refine LW.q rfl (Qt.assign rfl) ?_
  refine LW.done ?_
  have rdat : RdV B [rB (.slice p8 N c8) N data] (.slice p8 N c9) (bytesV data) := (RdV.rB (c := c8) hN hp8).takeAll c9
  first | refine T.condF rfl ?_ | refine T.condPF rfl (by omega) ?_ | refine T.condBF rfl (by omega) ?_
  refine T.seq ?_
  refine T.region ?_
  refine LW.q rfl (Qt.move rfl) ?_
  refine LW.q rfl (Qt.len (e := 5) (sz := 1) (by kernel_rfl) rfl) ?_
  refine LW.q rfl (Qt.gtr rfl rfl) ?_
  refine LW.q rfl (Qt.assign rfl) ?_
  refine LW.done ?_
  first | refine T.condF rfl ?_ | refine T.condPF rfl (by omega) ?_ | refine T.condBF rfl (by omega) ?_
  refine T.seq ?_
  refine T.drawAll 16 (by kernel_rfl) (Nat.le_of_ble_eq_true rfl) (by kernel_rfl) ?_
  refine RW.q 0 rfl rfl (by kernel_rfl) (Sub.refl _) (Qt.move rfl) ?_
  refine RW.q 1 rfl rfl (by kernel_rfl) (Sub.refl _) (Qt.nilCheck rfl) ?_
  refine RW.q 2 rfl rfl (by kernel_rfl) (Sub.refl _) (Qt.fieldAddr (off := 3) (by kernel_rfl) rfl) ?_
  first | refine RW.q 3 rfl rfl (by kernel_rfl) (Sub.refl _) (Qt.load (by kernel_rfl) rfl rfl) ?_ | refine RW.q 3 rfl rfl (by kernel_rfl) (Sub.refl _) (Qt.load (by kernel_rfl) rfl (map_at _ _ _ (by omega))) ?_ | refine RW.q 3 rfl rfl (by kernel_rfl) (Sub.refl _) (Qt.load (by kernel_rfl) rfl (flat_cell0 _ _ _ (by intros; rfl) _ (by omega) (by rfl))) ?_ | refine RW.q 3 rfl rfl (by kernel_rfl) (Sub.refl _) (Qt.load (by kernel_rfl) rfl (flat_cell _ _ _ (by intros; rfl) _ _ (by omega) (by rfl))) ?_ | refine RW.q 3 rfl rfl (by kernel_rfl) (Sub.refl _) (Qt.load (by kernel_rfl) rfl (bytes_at _ _ (by omega))) ?_
  refine RW.q 4 rfl rfl (by kernel_rfl) (Sub.refl _) (Qt.len (e := 5) (sz := 1) (by kernel_rfl) rfl) ?_
  refine RW.q 5 rfl rfl (by kernel_rfl) (Sub.refl _) (Qt.add rfl rfl (wr64 (by omega) (by omega))) ?_
  refine RW.q 6 rfl rfl (by kernel_rfl) (Sub.refl _) (Qt.move rfl) ?_
  refine RW.q 7 rfl rfl (by kernel_rfl) (Sub.refl _) (Qt.len (e := 5) (sz := 1) (by kernel_rfl) rfl) ?_
  refine RW.q 8 rfl rfl (by kernel_rfl) (Sub.refl _) (Qt.add rfl rfl (wr64 (by omega) (by omega))) ?_
  refine RW.q 9 rfl rfl (by kernel_rfl) (Sub.refl _) (Qt.move rfl) ?_
  refine RW.q 10 rfl rfl (by kernel_rfl) (Sub.refl _) (Qt.nilCheck rfl) ?_
  refine RW.q 11 rfl rfl (by kernel_rfl) (Sub.refl _) (Qt.fieldAddr0 (by kernel_rfl) rfl) ?_
  first | refine RW.q 12 rfl rfl (by kernel_rfl) (Sub.refl _) (Qt.loadAgg [_, _, _] (by kernel_rfl) rfl ⟨rfl, rfl, rfl, trivial⟩) ?_ | refine RW.q 12 rfl rfl (by kernel_rfl) (Sub.refl _) (Qt.loadAgg [_, _, _] (by kernel_rfl) rfl (by exact rdl_flat _ _ _ (by intros; rfl) _ (by omega))) ?_
  refine RW.one 13 (by kernel_rfl) ?_
  refine RO.e rfl rfl (Ef.call (Wl.size B (.pointer (some ⟨b, 0, none⟩)) W.first W.count hcnt) Tryd.func63 rfl rfl rfl ?_)
  rintro _ _ ⟨rfl, rfl⟩
  try simp only [List.cons_append, List.nil_append]
  refine ⟨Sub.any, ?_⟩
  refine RW.q 14 rfl rfl (by kernel_rfl) (Sub.refl _) (Qt.gtr rfl rfl) ?_
  refine RW.q 15 rfl rfl (by kernel_rfl) (Sub.refl _) (Qt.assign rfl) ?_
  refine RW.done (by rfl) ?_
  simp only [List.drop_succ_cons, List.drop_zero, List.drop_nil]
  refine LW.done ?_
  first | refine T.condF rfl ?_ | refine T.condPF rfl (by omega) ?_ | refine T.condBF rfl (by omega) ?_
  refine T.skip ?_
  refine T.seq ?_
  refine T.drawAll 12 (by kernel_rfl) (Nat.le_of_ble_eq_true rfl) (by kernel_rfl) ?_
  refine RW.q 0 rfl rfl (by kernel_rfl) (Sub.refl _) (Qt.move rfl) ?_
  refine RW.q 1 rfl rfl (by kernel_rfl) (Sub.refl _) (Qt.move rfl) ?_
  refine RW.q 2 rfl rfl (by kernel_rfl) (Sub.refl _) (Qt.nilCheck rfl) ?_
  refine RW.q 3 rfl rfl (by kernel_rfl) (Sub.refl _) (Qt.fieldAddr (off := 4) (by kernel_rfl) rfl) ?_
  first | refine RW.q 4 rfl rfl (by kernel_rfl) (Sub.refl _) (Qt.load (by kernel_rfl) rfl rfl) ?_ | refine RW.q 4 rfl rfl (by kernel_rfl) (Sub.refl _) (Qt.load (by kernel_rfl) rfl (map_at _ _ _ (by omega))) ?_ | refine RW.q 4 rfl rfl (by kernel_rfl) (Sub.refl _) (Qt.load (by kernel_rfl) rfl (flat_cell0 _ _ _ (by intros; rfl) _ (by omega) (by rfl))) ?_ | refine RW.q 4 rfl rfl (by kernel_rfl) (Sub.refl _) (Qt.load (by kernel_rfl) rfl (flat_cell _ _ _ (by intros; rfl) _ _ (by omega) (by rfl))) ?_ | refine RW.q 4 rfl rfl (by kernel_rfl) (Sub.refl _) (Qt.load (by kernel_rfl) rfl (bytes_at _ _ (by omega))) ?_
  refine RW.q 5 rfl rfl (by kernel_rfl) (Sub.refl _) (Qt.move rfl) ?_
  refine RW.q 6 rfl rfl (by kernel_rfl) (Sub.refl _) (Qt.nilCheck rfl) ?_
  refine RW.q 7 rfl rfl (by kernel_rfl) (Sub.refl _) (Qt.fieldAddr (off := 3) (by kernel_rfl) rfl) ?_
  first | refine RW.q 8 rfl rfl (by kernel_rfl) (Sub.refl _) (Qt.load (by kernel_rfl) rfl rfl) ?_ | refine RW.q 8 rfl rfl (by kernel_rfl) (Sub.refl _) (Qt.load (by kernel_rfl) rfl (map_at _ _ _ (by omega))) ?_ | refine RW.q 8 rfl rfl (by kernel_rfl) (Sub.refl _) (Qt.load (by kernel_rfl) rfl (flat_cell0 _ _ _ (by intros; rfl) _ (by omega) (by rfl))) ?_ | refine RW.q 8 rfl rfl (by kernel_rfl) (Sub.refl _) (Qt.load (by kernel_rfl) rfl (flat_cell _ _ _ (by intros; rfl) _ _ (by omega) (by rfl))) ?_ | refine RW.q 8 rfl rfl (by kernel_rfl) (Sub.refl _) (Qt.load (by kernel_rfl) rfl (bytes_at _ _ (by omega))) ?_
  refine RW.q 9 rfl rfl (by kernel_rfl) (Sub.refl _) (Qt.len (e := 5) (sz := 1) (by kernel_rfl) rfl) ?_
  refine RW.q 10 rfl rfl (by kernel_rfl) (Sub.refl _) (Qt.move rfl) ?_
  refine RW.one 11 (by kernel_rfl) ?_
  refine RO.e rfl rfl (Ef.call (Wl.shut B [rB (.slice p8 N c8) N data] W.sum W.st.length p8 N c9 data rdat hN (by omega)) Tryd.func59 rfl rfl rfl ?_)
  rintro _ _ ⟨rfl, rfl⟩
  try simp only [List.cons_append, List.nil_append]
  rw [hs]
  refine ⟨Sub.any, ?_⟩
  refine RW.done (by rfl) ?_
  simp only [List.drop_succ_cons, List.drop_zero, List.drop_nil]
  refine LW.q rfl (Qt.nilCheck rfl) ?_
  refine LW.q rfl (Qt.fieldAddr (off := 4) (by kernel_rfl) rfl) ?_
  refine LW.e0 rfl (Ef.store1 (by kernel_rfl) rfl rfl rfl (by first | (simp; done) | (simp; omega)) ?_)
  try simp only [List.set_cons_zero, List.set_cons_succ]
  refine LW.done ?_
  refine T.seq ?_
  refine T.drawAll 15 (by kernel_rfl) (Nat.le_of_ble_eq_true rfl) (by kernel_rfl) ?_
  refine RW.q 0 rfl rfl (by kernel_rfl) (Sub.refl _) (Qt.move rfl) ?_
  refine RW.q 1 rfl rfl (by kernel_rfl) (Sub.refl _) (Qt.move rfl) ?_
  refine RW.q 2 rfl rfl (by kernel_rfl) (Sub.refl _) (Qt.nilCheck rfl) ?_
  refine RW.q 3 rfl rfl (by kernel_rfl) (Sub.refl _) (Qt.fieldAddr (off := 3) (by kernel_rfl) rfl) ?_
  first | refine RW.q 4 rfl rfl (by kernel_rfl) (Sub.refl _) (Qt.load (by kernel_rfl) rfl rfl) ?_ | refine RW.q 4 rfl rfl (by kernel_rfl) (Sub.refl _) (Qt.load (by kernel_rfl) rfl (map_at _ _ _ (by omega))) ?_ | refine RW.q 4 rfl rfl (by kernel_rfl) (Sub.refl _) (Qt.load (by kernel_rfl) rfl (flat_cell0 _ _ _ (by intros; rfl) _ (by omega) (by rfl))) ?_ | refine RW.q 4 rfl rfl (by kernel_rfl) (Sub.refl _) (Qt.load (by kernel_rfl) rfl (flat_cell _ _ _ (by intros; rfl) _ _ (by omega) (by rfl))) ?_ | refine RW.q 4 rfl rfl (by kernel_rfl) (Sub.refl _) (Qt.load (by kernel_rfl) rfl (bytes_at _ _ (by omega))) ?_
  refine RW.q 5 rfl rfl (by kernel_rfl) (Sub.refl _) (Qt.move rfl) ?_
  refine RW.q 6 rfl rfl (by kernel_rfl) (Sub.refl _) (Qt.len (e := 5) (sz := 1) (by kernel_rfl) rfl) ?_
  refine RW.q 7 rfl rfl (by kernel_rfl) (Sub.refl _) (Qt.convI (by kernel_rfl) (by kernel_rfl) rfl (wru64_i64 _)) ?_
  refine RW.q 9 rfl rfl (by kernel_rfl) (Sub.refl _) (Qt.move rfl) ?_
  refine RW.q 10 rfl rfl (by kernel_rfl) (Sub.refl _) (Qt.nilCheck rfl) ?_
  refine RW.q 11 rfl rfl (by kernel_rfl) (Sub.refl _) (Qt.fieldAddr (off := 4) (by kernel_rfl) rfl) ?_
  first | refine RW.q 12 rfl rfl (by kernel_rfl) (Sub.refl _) (Qt.load (by kernel_rfl) rfl rfl) ?_ | refine RW.q 12 rfl rfl (by kernel_rfl) (Sub.refl _) (Qt.load (by kernel_rfl) rfl (map_at _ _ _ (by omega))) ?_ | refine RW.q 12 rfl rfl (by kernel_rfl) (Sub.refl _) (Qt.load (by kernel_rfl) rfl (flat_cell0 _ _ _ (by intros; rfl) _ (by omega) (by rfl))) ?_ | refine RW.q 12 rfl rfl (by kernel_rfl) (Sub.refl _) (Qt.load (by kernel_rfl) rfl (flat_cell _ _ _ (by intros; rfl) _ _ (by omega) (by rfl))) ?_ | refine RW.q 12 rfl rfl (by kernel_rfl) (Sub.refl _) (Qt.load (by kernel_rfl) rfl (bytes_at _ _ (by omega))) ?_
  refine RW.q 13 rfl rfl (by kernel_rfl) (Sub.refl _) (Qt.convI (by kernel_rfl) (by kernel_rfl) rfl (wru64_u32 s)) ?_
  refine RW.one 8 (by kernel_rfl) ?_
  refine RO.e rfl rfl (Ef.call (Cd.putP B [rB (.slice p W.st.length cc) W.st.length W.st] (.slice p W.st.length cc) W.st W.st.length rfl (UInt64.ofInt N) 4 4 rfl (by omega) (RdV.rB rfl hp) (by omega)) Tryd.func53 rfl rfl rfl ?_)
  rintro _ _ ⟨p1, c1, rfl, hp1, rfl⟩
  try simp only [List.cons_append, List.nil_append]
  refine ⟨Sub.any, ?_⟩
  refine RW.one 14 (by kernel_rfl) ?_
  refine RO.e rfl rfl (Ef.call (Cd.putP B [rB (.slice p1 (W.st.length + 4) c1) (W.st.length + 4) (W.st ++ be (UInt64.ofInt N) 4)] (.slice p1 (W.st.length + 4) c1) (W.st ++ be (UInt64.ofInt N) 4) (W.st.length + 4) (by simp [length_be]) s.toUInt64 4 4 rfl (by omega) (RdV.rB (by simp [length_be]) hp1) (by omega)) Tryd.func53 rfl rfl rfl ?_)
  rintro _ _ ⟨p2, c2, rfl, hp2, rfl⟩
  try simp only [List.cons_append, List.nil_append]
  refine ⟨Sub.any, ?_⟩
  refine RW.done (by rfl) ?_
  simp only [List.drop_succ_cons, List.drop_zero, List.drop_nil]
  refine LW.q rfl (Qt.nilCheck rfl) ?_
  refine LW.q rfl (Qt.fieldAddr (off := 3) (by kernel_rfl) rfl) ?_
  refine LW.e0 rfl (Ef.store1 (by kernel_rfl) rfl rfl rfl (by first | (simp; done) | (simp; omega)) ?_)
  try simp only [List.set_cons_zero, List.set_cons_succ]
  refine LW.done ?_
  refine T.seq ?_
  refine T.region ?_
  refine LW.q rfl (Qt.move rfl) ?_
  refine LW.q rfl (Qt.move rfl) ?_
  refine LW.q rfl (Qt.nilCheck rfl) ?_
  refine LW.q rfl (Qt.fieldAddr (off := 3) (by kernel_rfl) rfl) ?_
  first | refine LW.q rfl (Qt.load (by kernel_rfl) rfl rfl) ?_ | refine LW.q rfl (Qt.load (by kernel_rfl) rfl (map_at _ _ _ (by omega))) ?_ | refine LW.q rfl (Qt.load (by kernel_rfl) rfl (flat_cell0 _ _ _ (by intros; rfl) _ (by omega) (by rfl))) ?_ | refine LW.q rfl (Qt.load (by kernel_rfl) rfl (flat_cell _ _ _ (by intros; rfl) _ _ (by omega) (by rfl))) ?_ | refine LW.q rfl (Qt.load (by kernel_rfl) rfl (bytes_at _ _ (by omega))) ?_
  refine LW.q rfl (Qt.move rfl) ?_
  refine LW.e rfl (Ef.append Cd.elemB rfl rfl (SrcOf.rd (m := N) (rdat.mono (fun w ho => ho.map Sub.any)) (by kernel_rfl) (by simp [hN]) one_bytesV) (by unfold maxLen; omega) (by omega) ?_)
  rintro p4 c4 hp4
  try simp only [List.cons_append, List.nil_append]
  rw [← bytesV_append]
  obtain ⟨st2, hst2, hlen⟩ : ∃ st2, W.st ++ be (UInt64.ofInt N) 4 ++ be s.toUInt64 4 ++ data = st2 ∧ W.st.length + 4 + 4 + N = st2.length := ⟨_, rfl, by simp [length_be, hN]; omega⟩
  rw [hst2, hlen]
  rw [hlen] at hp4
  refine LW.q rfl (Qt.nilCheck rfl) ?_
  refine LW.q rfl (Qt.fieldAddr (off := 3) (by kernel_rfl) rfl) ?_
  refine LW.e0 rfl (Ef.store1 (by kernel_rfl) rfl rfl rfl (by first | (simp; done) | (simp; omega)) ?_)
  try simp only [List.set_cons_zero, List.set_cons_succ]
  refine LW.done ?_
  refine T.seq ?_
  refine T.region ?_
  refine LW.q rfl (Qt.move rfl) ?_
  refine LW.e rfl (Ef.call (Wl.endB B g b ⟨W.first, W.count, st2, s, W.dur⟩ p4 c4 (by show st2.length < _; omega)) Tryd.func39 rfl rfl rfl ?_)
  rintro _ _ ⟨rfl, rfl⟩
  try simp only [List.cons_append, List.nil_append]
  refine LW.q rfl (Qt.assign rfl) ?_
  refine LW.q rfl (Qt.assign rfl) ?_
  refine LW.done ?_
  refine T.ret ?_
  exact ⟨.inl rfl, _, _, res [_, _] rfl ⟨rvT rfl, rvT rfl, trivial⟩, ⟨p4, c4, by rw [show ((W.st.length : Int) + 8 + N) = ((st2.length : Nat) : Int) by omega]; rfl, hp4, rfl⟩, Sub.any⟩
end Go.Proofs.YtjjhbpjbngdlnaaDoor
