/- The package wal: Open. UNDER WAY. Conditions: sizes. -/
import Derived.Test.YtjjhbpjbngdlnaaDoorWlF
set_option linter.unusedSimpArgs false
set_option linter.unusedVariables false
namespace Go.Proofs.YtjjhbpjbngdlnaaDoor
open Go.RowKit

/-- A quiet operation, taken in its turn. -/
theorem Ef.qt {P : Program} {B : Base} {n : Nat} {o : Oper} {f : Fr} {l : List Assn} {K : Value → List Assn → Prop} {v : Value} (hq : Qt P B n l o f v) (h : K v l) : Ef P B n o f l K := ⟨fun w next Q ho hk => by
  unfold Oper.wp
  rw [eval_act', hq.run w ho]
  exact hk _ _ _ h ho⟩
/-- The bytes of sectors as they are read. -/
def allD (D : DD) (first n : Nat) : List UInt8 := (List.range n).flatMap fun i => D.read (first + i)

structure WRec where
  mark : Nat
  r : Rec
abbrev wrecC (x : WRec) : List Value := [.int .i64 x.mark, recV x.r]
abbrev wrecR (q : Option Addr) (n c : Nat) (R : List WRec) : Assn := row (.slice q n c) 59 2 n (R.flatMap wrecC)
theorem allD_snoc (D : DD) (first n : Nat) : allD D first n ++ D.read (first + n) = allD D first (n + 1) := by simp [allD, List.range_succ]

theorem WRec.elem : ElemOk Tryd.prog 53 59 2 32 := .mk' (.agg #[.int .i64 0, .slice none 0 0]) Tryd.underlying53 (by kernel_rfl) rfl (by omega)
theorem takeRec_short {al : List UInt8} {k : Nat} {s : UInt32} (h : al.length - k < 8) : takeRec al k s = none := by
  unfold takeRec; rw [if_pos (by simpa using h)]
theorem takeRec_no {al : List UInt8} {k nn : Nat} {s : UInt32} (hnn : (get64 ((al.drop k).take 4)).toNat = nn) (h : nn = 0 ∨ 1024 < nn ∨ al.length - k - 8 < nn ∨ sealW s k (((al.drop k).take (8 + nn)).drop 8) ≠ (get64 (((al.drop k).take 8).drop 4)).toUInt32) : takeRec al k s = none := by
  unfold takeRec
  rw [hnn]
  by_cases h8 : (al.drop k).length < 8
  · rw [if_pos h8]
  · rw [if_neg h8, if_pos (by simpa using h)]
theorem takeRec_yes {al : List UInt8} {k nn : Nat} {s : UInt32} (hnn : (get64 ((al.drop k).take 4)).toNat = nn) (h8 : 8 ≤ al.length - k) (h0 : nn ≠ 0) (h1 : nn ≤ 1024) (h2 : nn ≤ al.length - k - 8) (h3 : sealW s k (((al.drop k).take (8 + nn)).drop 8) = (get64 (((al.drop k).take 8).drop 4)).toUInt32) : takeRec al k s = some (nn, (get64 (((al.drop k).take 8).drop 4)).toUInt32) := by
  unfold takeRec
  rw [hnn, if_neg (by simp; omega), if_neg (by simp [h3]; omega)]
/-- What is left to scan, behind the records R. -/
def ScanF (al : List UInt8) (m k : Nat) (s : UInt32) (R : List WRec) : Prop := ∃ f, m < f + k ∧ scanW al (m + 1) 0 0 = ((scanW al f k s).1, (scanW al f k s).2.1, R.map (fun x => (x.mark, x.r.b)) ++ (scanW al f k s).2.2)
theorem ScanF.init (al : List UInt8) (m : Nat) : ScanF al m 0 0 [] := ⟨m + 1, by omega, rfl⟩
theorem ScanF.stop {al : List UInt8} {m k : Nat} {s : UInt32} {R : List WRec} (h : ScanF al m k s R) (ht : takeRec al k s = none) : scanW al (m + 1) 0 0 = (k, s, R.map (fun x => (x.mark, x.r.b))) := by
  obtain ⟨f, _, e⟩ := h
  have : scanW al f k s = (k, s, []) := by cases f with
    | zero => rfl
    | succ f => rw [scanW, ht]
  rw [e, this, List.append_nil]
theorem ScanF.next {al : List UInt8} {m k nn : Nat} {s s' : UInt32} {R : List WRec} (h : ScanF al m k s R) (hk : k ≤ m) (ht : takeRec al k s = some (nn, s')) {q : Option Addr} {c : Nat} : ScanF al m (k + (8 + nn)) s' (R ++ [⟨k + (8 + nn), q, c, ((al.drop k).take (8 + nn)).drop 8⟩]) := by
  obtain ⟨f, hf, e⟩ := h
  cases f with
  | zero => omega
  | succ f =>
    refine ⟨f, by omega, ?_⟩
    rw [e, scanW, ht]
    simp
theorem wrec_nil {B : Base} {w : World} {l : List Assn} (H : Own B w l) : Own B w (wrecR none 0 0 [] :: recsA (List.map WRec.r []) :: l) :=
  Own.row_nil (H.map fun h k => show Has (recsA [] :: l) h from ⟨fun _ => none, h, ⟨fun _ => .inl rfl⟩, ⟨fun _ _ h => (by cases h)⟩, Piece.le_refl _, trivial, k⟩) _ _

theorem Sub.wrecAdd {l r m : List Assn} (R : List WRec) (x : WRec) (q : Option Addr) (n c z : Nat) (hz : x.r.b.length = z) [k : TakeL [row (.slice q n c) 59 2 n (R.flatMap wrecC ++ [.int .i64 x.mark, .slice x.r.p z x.r.c]), recsA (R.map WRec.r), rB (.slice x.r.p z x.r.c) z x.r.b] l r] [t : SubC (wrecR q n c (R ++ [x]) :: recsA ((R ++ [x]).map WRec.r) :: r) m] : Sub l m := fun h H => by
  subst hz
  have H1 := k.take h H
  refine t.sub h ?_
  rw [List.map_append]
  refine Has.cons_imp (fun _ k => recsA_snoc k) (m := _) (l := recsA (R.map WRec.r) :: recA x.r :: r) ?_
  have e : (R ++ [x]).flatMap wrecC = R.flatMap wrecC ++ [.int .i64 x.mark, .slice x.r.p x.r.b.length x.r.c] := by simp [wrecC, recV]
  show Has (wrecR q n c (R ++ [x]) :: _) h
  unfold wrecR
  rw [e]
  exact H1
/-- What Open leaves: the log, its records, the disk wiped behind them. -/
def OpenW (b first count : Nat) (al : List UInt8) (D : DD) (u : Value) (l : List Assn) : Prop := ∃ g p c q cq R k s, scanW al (count * 256 + 1) 0 0 = (k, s, R.map fun x => (x.mark, x.r.b)) ∧ k ≤ count * 256 ∧ (0 < k → ∃ g, p = some ⟨g, 0, none⟩) ∧ k ≤ c ∧ (al.take k).length = k ∧
  u = .tuple #[.pointer (some ⟨g, 0, none⟩), .slice q R.length cq, .int .i64 0] ∧ l = [wrecR q R.length cq R, recsA (R.map WRec.r), rB (.slice p k c) k (al.take k), wlB g b ⟨first, count, al.take k, s, k⟩ p c, dskA b (wipeD ⟨first, count, al.take k, s, k⟩ al D (k / 256) (count - k / 256)).sync]

theorem OpenW.mk {b first n m : Nat} {al st : List UInt8} {D : DD} {s : UInt32} {R : List WRec} {g c cq nq : Nat} {p q : Option Addr} {u : Value} {l : List Assn} (hm : m = n * 256) (hk : st.length ≤ m) (hst : st = al.take st.length) (hnq : nq = R.length) (hp : 0 < st.length → ∃ g, p = some ⟨g, 0, none⟩) (hkc : st.length ≤ c) (hsc : ScanF al m st.length s R) (ht : takeRec al st.length s = none)
    (hu : u = .tuple #[.pointer (some ⟨g, 0, none⟩), .slice q nq cq, .int .i64 0]) (hl : l = [wrecR q nq cq R, recsA (R.map WRec.r), rB (.slice p st.length c) st.length st, wlB g b ⟨first, n, st, s, st.length⟩ p c, dskA b (wipeD ⟨first, n, st, s, st.length⟩ al D (st.length / 256) (n - st.length / 256)).sync]) : OpenW b first n al D u l := by
  subst hm hnq
  have e := hsc.stop ht
  obtain ⟨k, hk2⟩ : ∃ k, st.length = k := ⟨_, rfl⟩
  rw [hk2] at hst hk hp hkc e hl
  subst hst
  exact ⟨g, p, c, q, cq, R, k, s, e, hk, hp, hkc, hk2, hu, hl⟩

set_option maxHeartbeats 4000000 in
set_option maxRecDepth 100000 in
theorem Wl.open (B : Base) (b : Nat) (D : DD) (first count : Nat) (h1 : 1 ≤ count) (hD : first + count ≤ D.secs.length) (hs : D.secs.length ≤ 4096) (hroom : D.pend.length + 4096 < 2 ^ 32) (hrl : ∀ n, n < D.secs.length → (D.read n).length = 256) :
    Fn Tryd.prog B 25 #[.pointer (some ⟨b, 0, none⟩), .int .i64 first, .int .i64 count] [dskA b D] (OpenW b first count (allD D first count) D) := by
  refine Fn.enter3 159 Tryd.func25 rfl rfl (Nat.le_of_ble_eq_true rfl) (fun F => ?_)
  try simp only [List.cons_append, List.nil_append]
  refine T.seq ?_
  refine T.region ?_
  refine LW.q rfl (Qt.assign rfl) ?_
  refine LW.q rfl (Qt.assign rfl) ?_
  refine LW.q rfl (Qt.assign rfl) ?_
  refine LW.done ?_
  refine T.seq ?_
  refine T.seq ?_
  refine T.region ?_
  refine LW.q rfl (Qt.move rfl) ?_
  refine LW.q rfl (Qt.lss rfl rfl) ?_
  refine LW.q rfl (Qt.move rfl) ?_
  first | refine LW.gF (t := 21) rfl rfl ?_ | refine LW.gF (t := 21) rfl (decide_eq_false (by omega)) ?_ | refine LW.gF (t := 21) rfl (by omega) ?_
  refine LW.q rfl (Qt.move rfl) ?_
  refine LW.q rfl (Qt.lss rfl rfl) ?_
  refine LW.q rfl (Qt.pick rfl rfl) ?_
  refine LW.q rfl (Qt.move rfl) ?_
  first | refine LW.gF (t := 25) rfl rfl ?_ | refine LW.gF (t := 25) rfl (decide_eq_false (by omega)) ?_ | refine LW.gF (t := 25) rfl (by omega) ?_
  refine LW.q rfl (Qt.move rfl) ?_
  refine LW.q rfl (Qt.move rfl) ?_
  refine LW.q rfl (Qt.nilCheck rfl) ?_
  refine LW.q rfl (Qt.fieldAddr0 (by kernel_rfl) rfl) ?_
  refine LW.e rfl (Ef.call (Dk.sectorsF B b D) Tryd.func58 rfl rfl rfl ?_)
  rintro _ _ ⟨rfl, rfl⟩
  try simp only [List.cons_append, List.nil_append]
  refine LW.q rfl (Qt.gtr rfl rfl) ?_
  refine LW.q rfl (Qt.pick rfl rfl) ?_
  refine LW.q rfl (Qt.move rfl) ?_
  first | refine LW.gF (t := 33) rfl rfl ?_ | refine LW.gF (t := 33) rfl (decide_eq_false (by omega)) ?_ | refine LW.gF (t := 33) rfl (by omega) ?_
  refine LW.q rfl (Qt.move rfl) ?_
  refine LW.q rfl (Qt.move rfl) ?_
  refine LW.q rfl (Qt.nilCheck rfl) ?_
  refine LW.q rfl (Qt.fieldAddr0 (by kernel_rfl) rfl) ?_
  refine LW.e rfl (Ef.call (Dk.sectorsF B b D) Tryd.func58 rfl rfl rfl ?_)
  rintro _ _ ⟨rfl, rfl⟩
  try simp only [List.cons_append, List.nil_append]
  refine LW.q rfl (Qt.move rfl) ?_
  refine LW.q rfl (Qt.sub rfl rfl (wr64 (by omega) (by omega))) ?_
  refine LW.q rfl (Qt.gtr rfl rfl) ?_
  refine LW.q rfl (Qt.pick rfl rfl) ?_
  refine LW.done ?_
  first | refine T.condF rfl ?_ | refine T.condPF rfl (by omega) ?_ | refine T.condBF rfl (by omega) ?_
  refine T.skip ?_
  refine T.seq ?_
  refine T.region ?_
  refine LW.q rfl (Qt.move rfl) ?_
  refine LW.q rfl (Qt.move rfl) ?_
  refine LW.q rfl (Qt.move rfl) ?_
  refine LW.q rfl (Qt.build [(0, 1), (1, 1), (2, 1)] [.pointer none, .int .i64 0, .int .i64 0] [_, _, _] [(0, _), (1, _), (2, _)] (by kernel_rfl) (by unfold zeroB; kernel_rfl) rfl rfl) ?_
  refine LW.q rfl (Qt.build [(0, 3), (3, 1), (4, 1), (5, 1)] [.pointer none, .int .i64 0, .int .i64 0, .slice none 0 0, .int .u32 0, .int .i64 0] [_, _, _, _, _, _] [(0, _)] (by kernel_rfl) (by unfold zeroB; kernel_rfl) rfl rfl) ?_
  refine LW.e rfl (Ef.box [_, _, _, _, _, _] rfl rfl ?_)
  intro g48
  refine LW.conv (l' := rB (.slice none 0 0) 0 (allD D first 0) :: wlB g48 b ⟨first, count, [], 0, 0⟩ none 0 :: dskA b D :: F) (fun w ho => ho.row_nil _ _) ?_
  refine LW.q rfl (Qt.assign rfl) ?_
  refine LW.done ?_
  refine T.seq ?_
  refine T.region ?_
  refine LW.q rfl (Qt.assign rfl) ?_
  refine LW.done ?_
  refine T.seq ?_
  refine T.seq ?_
  refine T.region ?_
  refine LW.q rfl (Qt.move rfl) ?_
  refine LW.q rfl (Qt.move rfl) ?_
  refine LW.done ?_
  refine T.block ?_
  refine T.loop (fun mz fz lz => ∃ (f0 : Fr) (n m : Nat) (pa : Option Addr) (ca : Nat), (n ≤ count ∧ m = n * 256 ∧ (allD D first n).length = m) ∧ mz = count - n ∧ fz = (upd (upd (upd (upd (upd (upd (upd f0 0 (.pointer (some ⟨b, 0, none⟩))) 1 (.int .i64 first)) 2 (.int .i64 count)) 9 (.pointer (some ⟨g48, 0, none⟩))) 10 (.slice pa m ca)) 49 (.int .i64 count)) 50 (.int .i64 n)) ∧ lz = rB (.slice pa m ca) m (allD D first n) :: wlB g48 b ⟨first, count, [], 0, 0⟩ none 0 :: dskA b D :: F) ?_ ?_
  · refine ⟨_, _, ⟨_, 0, 0, none, 0, ⟨Nat.zero_le _, rfl, rfl⟩, rfl, (updS rfl (updS rfl (updS rfl (updS rfl (updS rfl (updS rfl (updS rfl rfl))))))), rfl⟩, Sub.any⟩
  · skip
    rintro mz fz lz ⟨f0, n, m, pa, ca, ⟨hn, hm, hal⟩, hmz, rfl, rfl⟩
    subst mz
    try simp only [List.cons_append, List.nil_append]
    refine T.seq ?_
    refine T.region ?_
    refine LW.q rfl (Qt.lss rfl rfl) ?_
    refine LW.done ?_
    refine T.seq ?_
    refine T.condP rfl (fun hlt => ?_) (fun hlt => ?_)
    · skip
      refine T.skip ?_
      refine T.seq ?_
      refine T.block ?_
      refine T.seq ?_
      refine T.region ?_
      refine LW.q rfl (Qt.move rfl) ?_
      refine LW.q rfl (Qt.assign rfl) ?_
      refine LW.done ?_
      refine T.seq ?_
      refine T.region ?_
      refine LW.q rfl (Qt.move rfl) ?_
      refine LW.q rfl (Qt.move rfl) ?_
      refine LW.q rfl (Qt.move rfl) ?_
      refine LW.q rfl (Qt.add rfl rfl (wr64 (by omega) (by omega))) ?_
      refine LW.e rfl (Ef.call (Dk.readF B b D (first + n) _ (by omega) (by omega) (by omega)) Tryd.func43 rfl rfl rfl ?_)
      rintro _ _ ⟨gr, cr, rfl, rfl⟩
      try simp only [List.cons_append, List.nil_append]
      refine LW.q rfl (Qt.move rfl) ?_
      refine LW.q rfl (Qt.extract rfl rfl) ?_
      refine LW.q rfl (Qt.extract rfl rfl) ?_
      refine LW.q rfl (Qt.assign rfl) ?_
      refine LW.q rfl (Qt.assign rfl) ?_
      refine LW.done ?_
      refine T.region ?_
      refine LW.q rfl (Qt.move rfl) ?_
      refine LW.q rfl (Qt.move rfl) ?_
      refine LW.e rfl (Ef.append (u := .slice (some ⟨gr, 0, none⟩) 256 cr) (m := 256) (news := bytesV (D.read (first + n))) Cd.elemB rfl rfl (SrcOf.row (by kernel_rfl) one_bytesV) (by unfold maxLen; omega) (by omega) ?_)
      rintro p2 c2 hp2
      try simp only [List.cons_append, List.nil_append]
      rw [← bytesV_append, allD_snoc]
      refine LW.q rfl (Qt.assign rfl) ?_
      refine LW.done ?_
      refine T.region ?_
      refine LW.q rfl (Qt.add rfl rfl (wr64 (by omega) (by omega))) ?_
      refine LW.q rfl (Qt.move rfl) ?_
      refine LW.done ?_
      refine ⟨_, ?_, _, ⟨_, n + 1, m + 256, p2, c2, ⟨by omega, by omega, by rw [← allD_snoc, List.length_append, hal, hrl _ (by omega)]⟩, rfl, (updS rfl (updS rfl (updS rfl (updS rfl (updS rfl (updS rfl (updS rfl rfl))))))), rfl⟩, Sub.any⟩
      first | omega | (simp; omega)
    · skip
      obtain rfl : n = count := by omega
      obtain ⟨al, hall⟩ : ∃ al, allD D first n = al := ⟨_, rfl⟩
      rw [hall] at hal
      rw [hall]
      refine T.own (fun w ho => ?_)
      have hpa : 0 < m → ∃ g, pa = some ⟨g, 0, none⟩ := (ho.slice_at (p := pa) (m := m) (c := ca)).2.1
      have hmca : m ≤ ca := ho.cap_at (p := pa) (m := m) (c := ca)
      clear ho
      have rall : RdV B [rB (.slice pa m ca) m al] (.slice pa m ca) (bytesV al) := RdV.rB hal hpa
      refine T.conv (l' := wrecR none 0 0 [] :: recsA (List.map WRec.r []) :: rB (.slice none 0 0) 0 (al.take 0) :: rB (.slice pa m ca) m al :: wlB g48 b ⟨first, n, al.take 0, 0, 0⟩ none 0 :: dskA b D :: F) (fun w ho => wrec_nil (ho.row_nil _ _)) ?_
      refine T.exit ?_
      refine T.seq ?_
      refine T.region ?_
      refine LW.q rfl (Qt.assign rfl) ?_
      refine LW.done ?_
      refine T.seq ?_
      refine T.block ?_
      refine T.loop (fun mz fz lz => ∃ (f0 : Fr) (k : Nat) (st : List UInt8) (s : UInt32) (p : Option Addr) (c : Nat) (R : List WRec) (q : Option Addr) (cq nq : Nat), (k ≤ m ∧ st = al.take k ∧ st.length = k ∧ nq = R.length ∧ nq ≤ k ∧ (0 < k → ∃ g, p = some ⟨g, 0, none⟩) ∧ k ≤ c ∧ ScanF al m k s R) ∧ mz = m - k ∧ fz = (upd (upd (upd (upd f0 0 (.pointer (some ⟨b, 0, none⟩))) 9 (.pointer (some ⟨g48, 0, none⟩))) 10 (.slice pa m ca)) 14 (.slice q nq cq)) ∧ lz = wrecR q nq cq R :: recsA (R.map WRec.r) :: rB (.slice p k c) k st :: rB (.slice pa m ca) m al :: wlB g48 b ⟨first, n, st, s, 0⟩ p c :: dskA b D :: F) ?_ ?_
      · refine ⟨_, _, ⟨_, 0, al.take 0, 0, none, 0, [], none, 0, 0, ⟨Nat.zero_le _, rfl, rfl, rfl, Nat.le_refl _, fun h => by omega, Nat.le_refl _, ScanF.init al m⟩, rfl, (updS rfl (updS rfl (updS rfl (updS rfl rfl)))), rfl⟩, Sub.any⟩
      · skip
        rintro mz fz lz ⟨f0, k, st, s, p, c, R, q, cq, nq, ⟨hk, hst, hstl, hnq, hnk, hp, hkc, hsc⟩, hmz, rfl, rfl⟩
        subst mz
        try simp only [List.cons_append, List.nil_append]
        have rrest := rall.dropB k (by omega) hal hmca
        refine T.block ?_
        refine T.seq ?_
        refine T.region ?_
        refine LW.q rfl (Qt.move rfl) ?_
        refine LW.q rfl (Qt.move rfl) ?_
        refine LW.q rfl (Qt.nilCheck rfl) ?_
        refine LW.q rfl (Qt.fieldAddr (off := 3) (by kernel_rfl) rfl) ?_
        first | refine LW.q rfl (Qt.load (by kernel_rfl) rfl rfl) ?_ | refine LW.q rfl (Qt.load (by kernel_rfl) rfl (map_at _ _ _ (by omega))) ?_ | refine LW.q rfl (Qt.load (by kernel_rfl) rfl (flat_cell0 _ _ _ (by intros; rfl) _ (by omega) (by rfl))) ?_ | refine LW.q rfl (Qt.load (by kernel_rfl) rfl (flat_cell _ _ _ (by intros; rfl) _ _ (by omega) (by rfl))) ?_ | refine LW.q rfl (Qt.load (by kernel_rfl) rfl (bytes_at _ _ (by omega))) ?_
        refine LW.q rfl (Qt.len (e := 5) (sz := 1) (by kernel_rfl) rfl) ?_
        refine LW.q rfl (Qt.slice_snn k (e := 5) (sz := 1) (by kernel_rfl) rfl rfl (by show (st.length : Int) = k; omega) (by omega)) ?_
        refine LW.q rfl (Qt.assign rfl) ?_
        refine LW.done ?_
        refine T.seq ?_
        refine T.seq ?_
        refine T.region ?_
        refine LW.q rfl (Qt.move rfl) ?_
        refine LW.q rfl (Qt.len (e := 5) (sz := 1) (by kernel_rfl) rfl) ?_
        refine LW.q rfl (Qt.lss rfl rfl) ?_
        refine LW.done ?_
        refine T.condP rfl (fun h8 => ?_) (fun h8 => ?_)
        · skip
          subst hstl
          refine T.exit ?_
          refine T.seq ?_
          refine T.region ?_
          refine LW.q rfl (Qt.move rfl) ?_
          refine LW.q rfl (Qt.move rfl) ?_
          refine LW.q rfl (Qt.nilCheck rfl) ?_
          refine LW.q rfl (Qt.fieldAddr (off := 3) (by kernel_rfl) rfl) ?_
          first | refine LW.q rfl (Qt.load (by kernel_rfl) rfl rfl) ?_ | refine LW.q rfl (Qt.load (by kernel_rfl) rfl (map_at _ _ _ (by omega))) ?_ | refine LW.q rfl (Qt.load (by kernel_rfl) rfl (flat_cell0 _ _ _ (by intros; rfl) _ (by omega) (by rfl))) ?_ | refine LW.q rfl (Qt.load (by kernel_rfl) rfl (flat_cell _ _ _ (by intros; rfl) _ _ (by omega) (by rfl))) ?_ | refine LW.q rfl (Qt.load (by kernel_rfl) rfl (bytes_at _ _ (by omega))) ?_
          refine LW.q rfl (Qt.len (e := 5) (sz := 1) (by kernel_rfl) rfl) ?_
          refine LW.q rfl (Qt.nilCheck rfl) ?_
          refine LW.q rfl (Qt.fieldAddr (off := 5) (by kernel_rfl) rfl) ?_
          refine LW.e0 rfl (Ef.store1 (by kernel_rfl) rfl rfl rfl (by first | (simp; done) | (simp; omega)) ?_)
          try simp only [List.set_cons_zero, List.set_cons_succ]
          refine LW.done ?_
          refine T.seq ?_
          refine T.region ?_
          refine LW.q rfl (Qt.move rfl) ?_
          refine LW.q rfl (Qt.move rfl) ?_
          refine LW.e rfl (Ef.call (Wl.wipe B [rB (.slice pa m ca) m al] g48 b ⟨first, n, st, s, st.length⟩ p c hp hkc D pa m ca al rall hal hmca hm hD hs (by show st.length ≤ n * 256; omega) (Nat.le_refl _) hroom) Tryd.func61 rfl rfl rfl ?_)
          rintro _ _ ⟨rfl, rfl⟩
          try simp only [List.cons_append, List.nil_append]
          refine LW.done ?_
          refine T.seq ?_
          refine T.region ?_
          refine LW.q rfl (Qt.move rfl) ?_
          refine LW.q rfl (Qt.move rfl) ?_
          refine LW.q rfl (Qt.assign rfl) ?_
          refine LW.q rfl (Qt.assign rfl) ?_
          refine LW.q rfl (Qt.assign rfl) ?_
          refine LW.done ?_
          refine T.ret ?_
          exact ⟨.inl rfl, _, _, res [_, _, _] rfl ⟨rvT rfl, rvT rfl, rvT rfl, trivial⟩, OpenW.mk hm hk hst hnq hp hkc hsc (takeRec_short (by omega)) rfl rfl, Sub.any⟩
        · skip
          refine T.skip ?_
          refine T.seq ?_
          refine T.drawBl 8 none (by kernel_rfl) (Nat.le_of_ble_eq_true rfl) (by kernel_rfl) ?_
          refine RW.q 0 rfl rfl (by kernel_rfl) Sub.any (Qt.move rfl) ?_
          refine RW.q 1 rfl rfl (by kernel_rfl) Sub.any (Qt.slice_nsn 4 (e := 5) (sz := 1) (by kernel_rfl) rfl rfl rfl (by omega)) ?_
          refine RW.q 3 rfl rfl (by kernel_rfl) Sub.any (Qt.move rfl) ?_
          refine RW.q 4 rfl rfl (by kernel_rfl) Sub.any (Qt.slice_ssn 4 8 (e := 5) (sz := 1) (by kernel_rfl) rfl rfl rfl rfl rfl (by omega) (by omega)) ?_
          refine RW.one 2 (by kernel_rfl) ?_
          refine RO.eS rfl rfl (Ef.call (Cd.get B [rB (.slice pa m ca) m al] (.slice (offA pa ca k 1) 4 (ca - k)) ((al.drop k).take 4) (rrest.takeB 4 (ca - k) (by simp; omega)) (by simp; omega)) Tryd.func49 rfl rfl rfl ?_)
          rintro _ _ ⟨rfl, rfl⟩
          try simp only [List.cons_append, List.nil_append]
          refine ⟨Sub.any, ?_⟩
          refine RW.one 5 (by kernel_rfl) ?_
          refine RO.eS rfl rfl (Ef.call (Cd.get B [rB (.slice pa m ca) m al] (.slice (offA (offA pa ca k 1) (ca - k) 4 1) 4 (ca - k - 4)) (((al.drop k).take 8).drop 4) (rrest.part 4 8 (by omega) (by simp; omega) (by omega) (by omega) rfl) (by simp; omega)) Tryd.func49 rfl rfl rfl ?_)
          rintro _ _ ⟨rfl, rfl⟩
          try simp only [List.cons_append, List.nil_append]
          refine ⟨Sub.any, ?_⟩
          refine RW.q 6 rfl rfl (by kernel_rfl) Sub.any (Qt.convI (by kernel_rfl) (by kernel_rfl) rfl (wru32_u64 _)) ?_
          refine RW.q 7 rfl rfl (by kernel_rfl) Sub.any (Qt.assign rfl) ?_
          refine RW.done (by rfl) ?_
          simp only [List.drop_succ_cons, List.drop_zero, List.drop_nil]
          refine LW.q rfl (Qt.assign rfl) ?_
          refine LW.done ?_
          refine T.seq ?_
          refine T.seq ?_
          obtain ⟨nn, hnn⟩ : ∃ nn, (get64 ((al.drop k).take 4)).toNat = nn := ⟨_, rfl⟩
          rw [hnn]
          refine T.drawAll 33 (by kernel_rfl) (Nat.le_of_ble_eq_true rfl) (by kernel_rfl) ?_
          refine RW.q 0 rfl rfl (by kernel_rfl) (Sub.refl _) (Qt.move rfl) ?_
          refine RW.q 1 rfl rfl (by kernel_rfl) (Sub.refl _) (Qt.eql rfl rfl) ?_
          refine RW.q 2 rfl rfl (by kernel_rfl) (Sub.refl _) (Qt.move rfl) ?_
          refine RW.split (t := 84) rfl (fun hz => ?_) (fun hz => ?_)
          · skip
            try replace hz := of_decide_eq_true hz
            refine RW.s 3 rfl rfl (by kernel_rfl) (Sub.refl _) ?_
            refine RW.s 4 rfl rfl (by kernel_rfl) (Sub.refl _) ?_
            refine RW.q 5 rfl rfl (by kernel_rfl) (Sub.refl _) (Qt.pick rfl rfl) ?_
            refine RW.q 6 rfl rfl (by kernel_rfl) (Sub.refl _) (Qt.move rfl) ?_
            first | refine RW.gT (t := 88) rfl rfl ?_ | refine RW.gT (t := 88) rfl (decide_eq_true (by omega)) ?_ | refine RW.gT (t := 88) rfl (by omega) ?_
            refine RW.s 7 rfl rfl (by kernel_rfl) (Sub.refl _) ?_
            refine RW.s 8 rfl rfl (by kernel_rfl) (Sub.refl _) ?_
            refine RW.s 9 rfl rfl (by kernel_rfl) (Sub.refl _) ?_
            refine RW.s 10 rfl rfl (by kernel_rfl) (Sub.refl _) ?_
            refine RW.s 11 rfl rfl (by kernel_rfl) (Sub.refl _) ?_
            refine RW.s 12 rfl rfl (by kernel_rfl) (Sub.refl _) ?_
            refine RW.q 13 rfl rfl (by kernel_rfl) (Sub.refl _) (Qt.pick rfl rfl) ?_
            refine RW.q 14 rfl rfl (by kernel_rfl) (Sub.refl _) (Qt.move rfl) ?_
            first | refine RW.gT (t := 96) rfl rfl ?_ | refine RW.gT (t := 96) rfl (decide_eq_true (by omega)) ?_ | refine RW.gT (t := 96) rfl (by omega) ?_
            refine RW.s 15 rfl rfl (by kernel_rfl) (Sub.refl _) ?_
            refine RW.s 16 rfl rfl (by kernel_rfl) (Sub.refl _) ?_
            refine RW.s 17 rfl rfl (by kernel_rfl) (Sub.refl _) ?_
            refine RW.s 18 rfl rfl (by kernel_rfl) (Sub.refl _) ?_
            refine RW.s 19 rfl rfl (by kernel_rfl) (Sub.refl _) ?_
            refine RW.s 20 rfl rfl (by kernel_rfl) (Sub.refl _) ?_
            refine RW.s 21 rfl rfl (by kernel_rfl) (Sub.refl _) ?_
            refine RW.s 22 rfl rfl (by kernel_rfl) (Sub.refl _) ?_
            refine RW.s 23 rfl rfl (by kernel_rfl) (Sub.refl _) ?_
            refine RW.s 24 rfl rfl (by kernel_rfl) (Sub.refl _) ?_
            refine RW.s 25 rfl rfl (by kernel_rfl) (Sub.refl _) ?_
            refine RW.s 26 rfl rfl (by kernel_rfl) (Sub.refl _) ?_
            refine RW.s 27 rfl rfl (by kernel_rfl) (Sub.refl _) ?_
            refine RW.s 28 rfl rfl (by kernel_rfl) (Sub.refl _) ?_
            refine RW.s 29 rfl rfl (by kernel_rfl) (Sub.refl _) ?_
            refine RW.s 30 rfl rfl (by kernel_rfl) (Sub.refl _) ?_
            refine RW.s 31 rfl rfl (by kernel_rfl) (Sub.refl _) ?_
            refine RW.q 32 rfl rfl (by kernel_rfl) (Sub.refl _) (Qt.pick rfl rfl) ?_
            refine RW.done (by rfl) ?_
            simp only [List.drop_succ_cons, List.drop_zero, List.drop_nil]
            refine LW.done ?_
            first | refine T.condT rfl ?_ | refine T.condPT rfl (by omega) ?_ | refine T.condBT rfl (by omega) ?_
            subst hstl
            refine T.exit ?_
            refine T.seq ?_
            refine T.region ?_
            refine LW.q rfl (Qt.move rfl) ?_
            refine LW.q rfl (Qt.move rfl) ?_
            refine LW.q rfl (Qt.nilCheck rfl) ?_
            refine LW.q rfl (Qt.fieldAddr (off := 3) (by kernel_rfl) rfl) ?_
            first | refine LW.q rfl (Qt.load (by kernel_rfl) rfl rfl) ?_ | refine LW.q rfl (Qt.load (by kernel_rfl) rfl (map_at _ _ _ (by omega))) ?_ | refine LW.q rfl (Qt.load (by kernel_rfl) rfl (flat_cell0 _ _ _ (by intros; rfl) _ (by omega) (by rfl))) ?_ | refine LW.q rfl (Qt.load (by kernel_rfl) rfl (flat_cell _ _ _ (by intros; rfl) _ _ (by omega) (by rfl))) ?_ | refine LW.q rfl (Qt.load (by kernel_rfl) rfl (bytes_at _ _ (by omega))) ?_
            refine LW.q rfl (Qt.len (e := 5) (sz := 1) (by kernel_rfl) rfl) ?_
            refine LW.q rfl (Qt.nilCheck rfl) ?_
            refine LW.q rfl (Qt.fieldAddr (off := 5) (by kernel_rfl) rfl) ?_
            refine LW.e0 rfl (Ef.store1 (by kernel_rfl) rfl rfl rfl (by first | (simp; done) | (simp; omega)) ?_)
            try simp only [List.set_cons_zero, List.set_cons_succ]
            refine LW.done ?_
            refine T.seq ?_
            refine T.region ?_
            refine LW.q rfl (Qt.move rfl) ?_
            refine LW.q rfl (Qt.move rfl) ?_
            refine LW.e rfl (Ef.call (Wl.wipe B [rB (.slice pa m ca) m al] g48 b ⟨first, n, st, s, st.length⟩ p c hp hkc D pa m ca al rall hal hmca hm hD hs (by show st.length ≤ n * 256; omega) (Nat.le_refl _) hroom) Tryd.func61 rfl rfl rfl ?_)
            rintro _ _ ⟨rfl, rfl⟩
            try simp only [List.cons_append, List.nil_append]
            refine LW.done ?_
            refine T.seq ?_
            refine T.region ?_
            refine LW.q rfl (Qt.move rfl) ?_
            refine LW.q rfl (Qt.move rfl) ?_
            refine LW.q rfl (Qt.assign rfl) ?_
            refine LW.q rfl (Qt.assign rfl) ?_
            refine LW.q rfl (Qt.assign rfl) ?_
            refine LW.done ?_
            refine T.ret ?_
            exact ⟨.inl rfl, _, _, res [_, _, _] rfl ⟨rvT rfl, rvT rfl, rvT rfl, trivial⟩, OpenW.mk hm hk hst hnq hp hkc hsc (takeRec_no hnn (.inl (by omega))) rfl rfl, Sub.any⟩
          · skip
            try replace hz := of_decide_eq_false hz
            refine RW.q 3 rfl rfl (by kernel_rfl) (Sub.refl _) (Qt.move rfl) ?_
            refine RW.q 4 rfl rfl (by kernel_rfl) (Sub.refl _) (Qt.gtr rfl rfl) ?_
            refine RW.q 5 rfl rfl (by kernel_rfl) (Sub.refl _) (Qt.pick rfl rfl) ?_
            refine RW.q 6 rfl rfl (by kernel_rfl) (Sub.refl _) (Qt.move rfl) ?_
            refine RW.split (t := 88) rfl (fun hbig => ?_) (fun hbig => ?_)
            · skip
              try replace hbig := of_decide_eq_true hbig
              refine RW.s 7 rfl rfl (by kernel_rfl) (Sub.refl _) ?_
              refine RW.s 8 rfl rfl (by kernel_rfl) (Sub.refl _) ?_
              refine RW.s 9 rfl rfl (by kernel_rfl) (Sub.refl _) ?_
              refine RW.s 10 rfl rfl (by kernel_rfl) (Sub.refl _) ?_
              refine RW.s 11 rfl rfl (by kernel_rfl) (Sub.refl _) ?_
              refine RW.s 12 rfl rfl (by kernel_rfl) (Sub.refl _) ?_
              refine RW.q 13 rfl rfl (by kernel_rfl) (Sub.refl _) (Qt.pick rfl rfl) ?_
              refine RW.q 14 rfl rfl (by kernel_rfl) (Sub.refl _) (Qt.move rfl) ?_
              first | refine RW.gT (t := 96) rfl rfl ?_ | refine RW.gT (t := 96) rfl (decide_eq_true (by omega)) ?_ | refine RW.gT (t := 96) rfl (by omega) ?_
              refine RW.s 15 rfl rfl (by kernel_rfl) (Sub.refl _) ?_
              refine RW.s 16 rfl rfl (by kernel_rfl) (Sub.refl _) ?_
              refine RW.s 17 rfl rfl (by kernel_rfl) (Sub.refl _) ?_
              refine RW.s 18 rfl rfl (by kernel_rfl) (Sub.refl _) ?_
              refine RW.s 19 rfl rfl (by kernel_rfl) (Sub.refl _) ?_
              refine RW.s 20 rfl rfl (by kernel_rfl) (Sub.refl _) ?_
              refine RW.s 21 rfl rfl (by kernel_rfl) (Sub.refl _) ?_
              refine RW.s 22 rfl rfl (by kernel_rfl) (Sub.refl _) ?_
              refine RW.s 23 rfl rfl (by kernel_rfl) (Sub.refl _) ?_
              refine RW.s 24 rfl rfl (by kernel_rfl) (Sub.refl _) ?_
              refine RW.s 25 rfl rfl (by kernel_rfl) (Sub.refl _) ?_
              refine RW.s 26 rfl rfl (by kernel_rfl) (Sub.refl _) ?_
              refine RW.s 27 rfl rfl (by kernel_rfl) (Sub.refl _) ?_
              refine RW.s 28 rfl rfl (by kernel_rfl) (Sub.refl _) ?_
              refine RW.s 29 rfl rfl (by kernel_rfl) (Sub.refl _) ?_
              refine RW.s 30 rfl rfl (by kernel_rfl) (Sub.refl _) ?_
              refine RW.s 31 rfl rfl (by kernel_rfl) (Sub.refl _) ?_
              refine RW.q 32 rfl rfl (by kernel_rfl) (Sub.refl _) (Qt.pick rfl rfl) ?_
              refine RW.done (by rfl) ?_
              simp only [List.drop_succ_cons, List.drop_zero, List.drop_nil]
              refine LW.done ?_
              first | refine T.condT rfl ?_ | refine T.condPT rfl (by omega) ?_ | refine T.condBT rfl (by omega) ?_
              subst hstl
              refine T.exit ?_
              refine T.seq ?_
              refine T.region ?_
              refine LW.q rfl (Qt.move rfl) ?_
              refine LW.q rfl (Qt.move rfl) ?_
              refine LW.q rfl (Qt.nilCheck rfl) ?_
              refine LW.q rfl (Qt.fieldAddr (off := 3) (by kernel_rfl) rfl) ?_
              first | refine LW.q rfl (Qt.load (by kernel_rfl) rfl rfl) ?_ | refine LW.q rfl (Qt.load (by kernel_rfl) rfl (map_at _ _ _ (by omega))) ?_ | refine LW.q rfl (Qt.load (by kernel_rfl) rfl (flat_cell0 _ _ _ (by intros; rfl) _ (by omega) (by rfl))) ?_ | refine LW.q rfl (Qt.load (by kernel_rfl) rfl (flat_cell _ _ _ (by intros; rfl) _ _ (by omega) (by rfl))) ?_ | refine LW.q rfl (Qt.load (by kernel_rfl) rfl (bytes_at _ _ (by omega))) ?_
              refine LW.q rfl (Qt.len (e := 5) (sz := 1) (by kernel_rfl) rfl) ?_
              refine LW.q rfl (Qt.nilCheck rfl) ?_
              refine LW.q rfl (Qt.fieldAddr (off := 5) (by kernel_rfl) rfl) ?_
              refine LW.e0 rfl (Ef.store1 (by kernel_rfl) rfl rfl rfl (by first | (simp; done) | (simp; omega)) ?_)
              try simp only [List.set_cons_zero, List.set_cons_succ]
              refine LW.done ?_
              refine T.seq ?_
              refine T.region ?_
              refine LW.q rfl (Qt.move rfl) ?_
              refine LW.q rfl (Qt.move rfl) ?_
              refine LW.e rfl (Ef.call (Wl.wipe B [rB (.slice pa m ca) m al] g48 b ⟨first, n, st, s, st.length⟩ p c hp hkc D pa m ca al rall hal hmca hm hD hs (by show st.length ≤ n * 256; omega) (Nat.le_refl _) hroom) Tryd.func61 rfl rfl rfl ?_)
              rintro _ _ ⟨rfl, rfl⟩
              try simp only [List.cons_append, List.nil_append]
              refine LW.done ?_
              refine T.seq ?_
              refine T.region ?_
              refine LW.q rfl (Qt.move rfl) ?_
              refine LW.q rfl (Qt.move rfl) ?_
              refine LW.q rfl (Qt.assign rfl) ?_
              refine LW.q rfl (Qt.assign rfl) ?_
              refine LW.q rfl (Qt.assign rfl) ?_
              refine LW.done ?_
              refine T.ret ?_
              exact ⟨.inl rfl, _, _, res [_, _, _] rfl ⟨rvT rfl, rvT rfl, rvT rfl, trivial⟩, OpenW.mk hm hk hst hnq hp hkc hsc (takeRec_no hnn (.inr (.inl (by omega)))) rfl rfl, Sub.any⟩
            · skip
              try replace hbig := of_decide_eq_false hbig
              refine RW.q 7 rfl rfl (by kernel_rfl) (Sub.refl _) (Qt.move rfl) ?_
              refine RW.q 8 rfl rfl (by kernel_rfl) (Sub.refl _) (Qt.convI (by kernel_rfl) (by kernel_rfl) rfl (wr64 (by omega) (by omega))) ?_
              refine RW.q 9 rfl rfl (by kernel_rfl) (Sub.refl _) (Qt.move rfl) ?_
              refine RW.q 10 rfl rfl (by kernel_rfl) (Sub.refl _) (Qt.len (e := 5) (sz := 1) (by kernel_rfl) rfl) ?_
              refine RW.q 11 rfl rfl (by kernel_rfl) (Sub.refl _) (Qt.sub rfl rfl (wr64 (by omega) (by omega))) ?_
              refine RW.q 12 rfl rfl (by kernel_rfl) (Sub.refl _) (Qt.gtr rfl rfl) ?_
              refine RW.q 13 rfl rfl (by kernel_rfl) (Sub.refl _) (Qt.pick rfl rfl) ?_
              refine RW.q 14 rfl rfl (by kernel_rfl) (Sub.refl _) (Qt.move rfl) ?_
              refine RW.split (t := 96) rfl (fun hlen => ?_) (fun hlen => ?_)
              · skip
                try replace hlen := of_decide_eq_true hlen
                refine RW.s 15 rfl rfl (by kernel_rfl) (Sub.refl _) ?_
                refine RW.s 16 rfl rfl (by kernel_rfl) (Sub.refl _) ?_
                refine RW.s 17 rfl rfl (by kernel_rfl) (Sub.refl _) ?_
                refine RW.s 18 rfl rfl (by kernel_rfl) (Sub.refl _) ?_
                refine RW.s 19 rfl rfl (by kernel_rfl) (Sub.refl _) ?_
                refine RW.s 20 rfl rfl (by kernel_rfl) (Sub.refl _) ?_
                refine RW.s 21 rfl rfl (by kernel_rfl) (Sub.refl _) ?_
                refine RW.s 22 rfl rfl (by kernel_rfl) (Sub.refl _) ?_
                refine RW.s 23 rfl rfl (by kernel_rfl) (Sub.refl _) ?_
                refine RW.s 24 rfl rfl (by kernel_rfl) (Sub.refl _) ?_
                refine RW.s 25 rfl rfl (by kernel_rfl) (Sub.refl _) ?_
                refine RW.s 26 rfl rfl (by kernel_rfl) (Sub.refl _) ?_
                refine RW.s 27 rfl rfl (by kernel_rfl) (Sub.refl _) ?_
                refine RW.s 28 rfl rfl (by kernel_rfl) (Sub.refl _) ?_
                refine RW.s 29 rfl rfl (by kernel_rfl) (Sub.refl _) ?_
                refine RW.s 30 rfl rfl (by kernel_rfl) (Sub.refl _) ?_
                refine RW.s 31 rfl rfl (by kernel_rfl) (Sub.refl _) ?_
                refine RW.q 32 rfl rfl (by kernel_rfl) (Sub.refl _) (Qt.pick rfl rfl) ?_
                refine RW.done (by rfl) ?_
                simp only [List.drop_succ_cons, List.drop_zero, List.drop_nil]
                refine LW.done ?_
                first | refine T.condT rfl ?_ | refine T.condPT rfl (by omega) ?_ | refine T.condBT rfl (by omega) ?_
                subst hstl
                refine T.exit ?_
                refine T.seq ?_
                refine T.region ?_
                refine LW.q rfl (Qt.move rfl) ?_
                refine LW.q rfl (Qt.move rfl) ?_
                refine LW.q rfl (Qt.nilCheck rfl) ?_
                refine LW.q rfl (Qt.fieldAddr (off := 3) (by kernel_rfl) rfl) ?_
                first | refine LW.q rfl (Qt.load (by kernel_rfl) rfl rfl) ?_ | refine LW.q rfl (Qt.load (by kernel_rfl) rfl (map_at _ _ _ (by omega))) ?_ | refine LW.q rfl (Qt.load (by kernel_rfl) rfl (flat_cell0 _ _ _ (by intros; rfl) _ (by omega) (by rfl))) ?_ | refine LW.q rfl (Qt.load (by kernel_rfl) rfl (flat_cell _ _ _ (by intros; rfl) _ _ (by omega) (by rfl))) ?_ | refine LW.q rfl (Qt.load (by kernel_rfl) rfl (bytes_at _ _ (by omega))) ?_
                refine LW.q rfl (Qt.len (e := 5) (sz := 1) (by kernel_rfl) rfl) ?_
                refine LW.q rfl (Qt.nilCheck rfl) ?_
                refine LW.q rfl (Qt.fieldAddr (off := 5) (by kernel_rfl) rfl) ?_
                refine LW.e0 rfl (Ef.store1 (by kernel_rfl) rfl rfl rfl (by first | (simp; done) | (simp; omega)) ?_)
                try simp only [List.set_cons_zero, List.set_cons_succ]
                refine LW.done ?_
                refine T.seq ?_
                refine T.region ?_
                refine LW.q rfl (Qt.move rfl) ?_
                refine LW.q rfl (Qt.move rfl) ?_
                refine LW.e rfl (Ef.call (Wl.wipe B [rB (.slice pa m ca) m al] g48 b ⟨first, n, st, s, st.length⟩ p c hp hkc D pa m ca al rall hal hmca hm hD hs (by show st.length ≤ n * 256; omega) (Nat.le_refl _) hroom) Tryd.func61 rfl rfl rfl ?_)
                rintro _ _ ⟨rfl, rfl⟩
                try simp only [List.cons_append, List.nil_append]
                refine LW.done ?_
                refine T.seq ?_
                refine T.region ?_
                refine LW.q rfl (Qt.move rfl) ?_
                refine LW.q rfl (Qt.move rfl) ?_
                refine LW.q rfl (Qt.assign rfl) ?_
                refine LW.q rfl (Qt.assign rfl) ?_
                refine LW.q rfl (Qt.assign rfl) ?_
                refine LW.done ?_
                refine T.ret ?_
                exact ⟨.inl rfl, _, _, res [_, _, _] rfl ⟨rvT rfl, rvT rfl, rvT rfl, trivial⟩, OpenW.mk hm hk hst hnq hp hkc hsc (takeRec_no hnn (.inr (.inr (.inl (by omega))))) rfl rfl, Sub.any⟩
              · skip
                try replace hlen := of_decide_eq_false hlen
                refine RW.q 15 rfl rfl (by kernel_rfl) (Sub.refl _) (Qt.move rfl) ?_
                refine RW.q 16 rfl rfl (by kernel_rfl) (Sub.refl _) (Qt.nilCheck rfl) ?_
                refine RW.q 17 rfl rfl (by kernel_rfl) (Sub.refl _) (Qt.fieldAddr (off := 4) (by kernel_rfl) rfl) ?_
                first | refine RW.q 18 rfl rfl (by kernel_rfl) (Sub.refl _) (Qt.load (by kernel_rfl) rfl rfl) ?_ | refine RW.q 18 rfl rfl (by kernel_rfl) (Sub.refl _) (Qt.load (by kernel_rfl) rfl (map_at _ _ _ (by omega))) ?_ | refine RW.q 18 rfl rfl (by kernel_rfl) (Sub.refl _) (Qt.load (by kernel_rfl) rfl (flat_cell0 _ _ _ (by intros; rfl) _ (by omega) (by rfl))) ?_ | refine RW.q 18 rfl rfl (by kernel_rfl) (Sub.refl _) (Qt.load (by kernel_rfl) rfl (flat_cell _ _ _ (by intros; rfl) _ _ (by omega) (by rfl))) ?_ | refine RW.q 18 rfl rfl (by kernel_rfl) (Sub.refl _) (Qt.load (by kernel_rfl) rfl (bytes_at _ _ (by omega))) ?_
                refine RW.q 19 rfl rfl (by kernel_rfl) (Sub.refl _) (Qt.move rfl) ?_
                refine RW.q 20 rfl rfl (by kernel_rfl) (Sub.refl _) (Qt.nilCheck rfl) ?_
                refine RW.q 21 rfl rfl (by kernel_rfl) (Sub.refl _) (Qt.fieldAddr (off := 3) (by kernel_rfl) rfl) ?_
                first | refine RW.q 22 rfl rfl (by kernel_rfl) (Sub.refl _) (Qt.load (by kernel_rfl) rfl rfl) ?_ | refine RW.q 22 rfl rfl (by kernel_rfl) (Sub.refl _) (Qt.load (by kernel_rfl) rfl (map_at _ _ _ (by omega))) ?_ | refine RW.q 22 rfl rfl (by kernel_rfl) (Sub.refl _) (Qt.load (by kernel_rfl) rfl (flat_cell0 _ _ _ (by intros; rfl) _ (by omega) (by rfl))) ?_ | refine RW.q 22 rfl rfl (by kernel_rfl) (Sub.refl _) (Qt.load (by kernel_rfl) rfl (flat_cell _ _ _ (by intros; rfl) _ _ (by omega) (by rfl))) ?_ | refine RW.q 22 rfl rfl (by kernel_rfl) (Sub.refl _) (Qt.load (by kernel_rfl) rfl (bytes_at _ _ (by omega))) ?_
                refine RW.q 23 rfl rfl (by kernel_rfl) (Sub.refl _) (Qt.len (e := 5) (sz := 1) (by kernel_rfl) rfl) ?_
                refine RW.q 24 rfl rfl (by kernel_rfl) (Sub.refl _) (Qt.move rfl) ?_
                refine RW.q 25 rfl rfl (by kernel_rfl) (Sub.refl _) (Qt.move rfl) ?_
                refine RW.q 26 rfl rfl (by kernel_rfl) (Sub.refl _) (Qt.convI (by kernel_rfl) (by kernel_rfl) rfl (wr64 (by omega) (by omega))) ?_
                refine RW.q 27 rfl rfl (by kernel_rfl) (Sub.refl _) (Qt.add rfl rfl (wr64 (by omega) (by omega))) ?_
                refine RW.q 28 rfl rfl (by kernel_rfl) (Sub.refl _) (Qt.slice_ssn 8 (8 + nn) (e := 5) (sz := 1) (by kernel_rfl) rfl rfl rfl rfl (by omega) (by omega) (by omega)) ?_
                refine RW.q 30 rfl rfl (by kernel_rfl) (Sub.refl _) (Qt.move rfl) ?_
                refine RW.one 29 (by kernel_rfl) ?_
                refine RO.e rfl rfl (Ef.call (Wl.shut B [rB (.slice pa m ca) m al] s st.length (offA (offA pa ca k 1) (ca - k) 8 1) (8 + nn - 8) (ca - k - 8) (((al.drop k).take (8 + nn)).drop 8) (rrest.part 8 (8 + nn) (by omega) (by simp; omega) (by omega) (by omega) rfl) (by simp; omega) (by omega)) Tryd.func59 rfl rfl rfl ?_)
                rintro _ _ ⟨rfl, rfl⟩
                try simp only [List.cons_append, List.nil_append]
                refine ⟨Sub.any, ?_⟩
                refine RW.q 31 rfl rfl (by kernel_rfl) (Sub.refl _) (Qt.neq rfl rfl) ?_
                refine RW.q 32 rfl rfl (by kernel_rfl) (Sub.refl _) (Qt.pick rfl rfl) ?_
                refine RW.done (by rfl) ?_
                simp only [List.drop_succ_cons, List.drop_zero, List.drop_nil]
                refine LW.done ?_
                refine T.condP rfl (fun hsum => ?_) (fun hsum => ?_)
                · skip
                  subst hstl
                  refine T.exit ?_
                  refine T.seq ?_
                  refine T.region ?_
                  refine LW.q rfl (Qt.move rfl) ?_
                  refine LW.q rfl (Qt.move rfl) ?_
                  refine LW.q rfl (Qt.nilCheck rfl) ?_
                  refine LW.q rfl (Qt.fieldAddr (off := 3) (by kernel_rfl) rfl) ?_
                  first | refine LW.q rfl (Qt.load (by kernel_rfl) rfl rfl) ?_ | refine LW.q rfl (Qt.load (by kernel_rfl) rfl (map_at _ _ _ (by omega))) ?_ | refine LW.q rfl (Qt.load (by kernel_rfl) rfl (flat_cell0 _ _ _ (by intros; rfl) _ (by omega) (by rfl))) ?_ | refine LW.q rfl (Qt.load (by kernel_rfl) rfl (flat_cell _ _ _ (by intros; rfl) _ _ (by omega) (by rfl))) ?_ | refine LW.q rfl (Qt.load (by kernel_rfl) rfl (bytes_at _ _ (by omega))) ?_
                  refine LW.q rfl (Qt.len (e := 5) (sz := 1) (by kernel_rfl) rfl) ?_
                  refine LW.q rfl (Qt.nilCheck rfl) ?_
                  refine LW.q rfl (Qt.fieldAddr (off := 5) (by kernel_rfl) rfl) ?_
                  refine LW.e0 rfl (Ef.store1 (by kernel_rfl) rfl rfl rfl (by first | (simp; done) | (simp; omega)) ?_)
                  try simp only [List.set_cons_zero, List.set_cons_succ]
                  refine LW.done ?_
                  refine T.seq ?_
                  refine T.region ?_
                  refine LW.q rfl (Qt.move rfl) ?_
                  refine LW.q rfl (Qt.move rfl) ?_
                  refine LW.e rfl (Ef.call (Wl.wipe B [rB (.slice pa m ca) m al] g48 b ⟨first, n, st, s, st.length⟩ p c hp hkc D pa m ca al rall hal hmca hm hD hs (by show st.length ≤ n * 256; omega) (Nat.le_refl _) hroom) Tryd.func61 rfl rfl rfl ?_)
                  rintro _ _ ⟨rfl, rfl⟩
                  try simp only [List.cons_append, List.nil_append]
                  refine LW.done ?_
                  refine T.seq ?_
                  refine T.region ?_
                  refine LW.q rfl (Qt.move rfl) ?_
                  refine LW.q rfl (Qt.move rfl) ?_
                  refine LW.q rfl (Qt.assign rfl) ?_
                  refine LW.q rfl (Qt.assign rfl) ?_
                  refine LW.q rfl (Qt.assign rfl) ?_
                  refine LW.done ?_
                  refine T.ret ?_
                  exact ⟨.inl rfl, _, _, res [_, _, _] rfl ⟨rvT rfl, rvT rfl, rvT rfl, trivial⟩, OpenW.mk hm hk hst hnq hp hkc hsc (takeRec_no hnn (.inr (.inr (.inr (by intro h; apply hsum; rw [h]))))) rfl rfl, Sub.any⟩
                · skip
                  subst hstl
                  obtain ⟨s', hs'⟩ : ∃ s', (get64 (((al.drop st.length).take 8).drop 4)).toUInt32 = s' := ⟨_, rfl⟩
                  have ht := takeRec_yes (s := s) hnn (by omega) (by omega) (by omega) (by omega) (by rw [hs']; apply UInt32.toNat_inj.1; rw [hs'] at hsum; simp at hsum; omega)
                  rw [hs'] at ht ⊢
                  refine T.skip ?_
                  refine T.seq ?_
                  refine T.region ?_
                  refine LW.q rfl (Qt.move rfl) ?_
                  refine LW.q rfl (Qt.convI (by kernel_rfl) (by kernel_rfl) rfl (wr64 (by omega) (by omega))) ?_
                  refine LW.q rfl (Qt.add rfl rfl (wr64 (by omega) (by omega))) ?_
                  refine LW.q rfl (Qt.assign rfl) ?_
                  refine LW.done ?_
                  refine T.seq ?_
                  refine T.drawBl 14 (some g48) (by kernel_rfl) (Nat.le_of_ble_eq_true rfl) (by kernel_rfl) ?_
                  refine RW.q 0 rfl rfl (by kernel_rfl) Sub.any (Qt.move rfl) ?_
                  refine RW.q 1 rfl rfl (by kernel_rfl) Sub.any (Qt.move rfl) ?_
                  refine RW.q 2 rfl rfl (by kernel_rfl) Sub.any (Qt.move rfl) ?_
                  refine RW.q 3 rfl rfl (by kernel_rfl) Sub.any (Qt.nilCheck rfl) ?_
                  refine RW.q 4 rfl rfl (by kernel_rfl) Sub.any (Qt.fieldAddr (off := 3) (by kernel_rfl) rfl) ?_
                  refine RW.q 6 rfl rfl (by kernel_rfl) Sub.any (Qt.move rfl) ?_
                  refine RW.q 7 rfl rfl (by kernel_rfl) Sub.any (Qt.move rfl) ?_
                  refine RW.q 8 rfl rfl (by kernel_rfl) Sub.any (Qt.slice_nsn (8 + nn) (e := 5) (sz := 1) (by kernel_rfl) rfl rfl rfl (by omega)) ?_
                  refine RW.q 10 rfl rfl (by kernel_rfl) Sub.any (Qt.move rfl) ?_
                  refine RW.one 5 (by kernel_rfl) ?_
                  first | refine RO.eS rfl rfl (Ef.qt (Qt.load (by kernel_rfl) rfl rfl) ?_) | refine RO.eS rfl rfl (Ef.qt (Qt.load (by kernel_rfl) rfl (map_at _ _ _ (by omega))) ?_) | refine RO.eS rfl rfl (Ef.qt (Qt.load (by kernel_rfl) rfl (flat_cell0 _ _ _ (by intros; rfl) _ (by omega) (by rfl))) ?_) | refine RO.eS rfl rfl (Ef.qt (Qt.load (by kernel_rfl) rfl (flat_cell _ _ _ (by intros; rfl) _ _ (by omega) (by rfl))) ?_) | refine RO.eS rfl rfl (Ef.qt (Qt.load (by kernel_rfl) rfl (bytes_at _ _ (by omega))) ?_)
                  refine ⟨Sub.any, ?_⟩
                  refine RW.one 9 (by kernel_rfl) ?_
                  refine RO.eS rfl rfl (Ef.append Cd.elemB rfl rfl (SrcOf.rd (m := 8 + nn) ((rrest.takeB (8 + nn) (ca - st.length) (by simp; omega)).mono (fun w ho => ho.map Sub.any)) (by kernel_rfl) (by simp; omega) one_bytesV) (by unfold maxLen; omega) (by omega) ?_)
                  rintro p4 c4 hp4
                  try simp only [List.cons_append, List.nil_append]
                  rw [← bytesV_append]
                  obtain ⟨st2, hst2, hlen2⟩ : ∃ st2, st ++ (al.drop st.length).take (8 + nn) = st2 ∧ st.length + (8 + nn) = st2.length := ⟨_, rfl, by simp; omega⟩
                  rw [hst2, hlen2]
                  rw [hlen2] at hp4
                  refine ⟨Sub.any, ?_⟩
                  refine RW.q 11 rfl rfl (by kernel_rfl) Sub.any (Qt.nilCheck rfl) ?_
                  refine RW.q 12 rfl rfl (by kernel_rfl) Sub.any (Qt.fieldAddr (off := 3) (by kernel_rfl) rfl) ?_
                  refine RW.one 13 (by kernel_rfl) ?_
                  refine RO.eS0 rfl rfl (Ef.store1 (by kernel_rfl) rfl rfl rfl (by first | (simp; done) | (simp; omega)) ?_)
                  try simp only [List.set_cons_zero, List.set_cons_succ]
                  refine ⟨Sub.any, ?_⟩
                  refine RW.done (by rfl) ?_
                  simp only [List.drop_succ_cons, List.drop_zero, List.drop_nil]
                  refine LW.q rfl (Qt.nilCheck rfl) ?_
                  refine LW.q rfl (Qt.fieldAddr (off := 4) (by kernel_rfl) rfl) ?_
                  refine LW.e0 rfl (Ef.store1 (by kernel_rfl) rfl rfl rfl (by first | (simp; done) | (simp; omega)) ?_)
                  try simp only [List.set_cons_zero, List.set_cons_succ]
                  refine LW.done ?_
                  refine T.own (fun w ho => ?_)
                  have hc4 : st2.length ≤ c4 := ho.cap_at (p := p4) (m := st2.length) (c := c4)
                  clear ho
                  refine T.drawBl 13 none (by kernel_rfl) (Nat.le_of_ble_eq_true rfl) (by kernel_rfl) ?_
                  refine RW.q 0 rfl rfl (by kernel_rfl) Sub.any (Qt.move rfl) ?_
                  refine RW.q 1 rfl rfl (by kernel_rfl) Sub.any (Qt.move rfl) ?_
                  refine RW.q 2 rfl rfl (by kernel_rfl) Sub.any (Qt.nilCheck rfl) ?_
                  refine RW.q 3 rfl rfl (by kernel_rfl) Sub.any (Qt.fieldAddr (off := 3) (by kernel_rfl) rfl) ?_
                  first | refine RW.q 4 rfl rfl (by kernel_rfl) Sub.any (Qt.load (by kernel_rfl) rfl rfl) ?_ | refine RW.q 4 rfl rfl (by kernel_rfl) Sub.any (Qt.load (by kernel_rfl) rfl (map_at _ _ _ (by omega))) ?_ | refine RW.q 4 rfl rfl (by kernel_rfl) Sub.any (Qt.load (by kernel_rfl) rfl (flat_cell0 _ _ _ (by intros; rfl) _ (by omega) (by rfl))) ?_ | refine RW.q 4 rfl rfl (by kernel_rfl) Sub.any (Qt.load (by kernel_rfl) rfl (flat_cell _ _ _ (by intros; rfl) _ _ (by omega) (by rfl))) ?_ | refine RW.q 4 rfl rfl (by kernel_rfl) Sub.any (Qt.load (by kernel_rfl) rfl (bytes_at _ _ (by omega))) ?_
                  refine RW.q 5 rfl rfl (by kernel_rfl) Sub.any (Qt.len (e := 5) (sz := 1) (by kernel_rfl) rfl) ?_
                  refine RW.q 6 rfl rfl (by kernel_rfl) Sub.any (Qt.move rfl) ?_
                  refine RW.q 7 rfl rfl (by kernel_rfl) Sub.any (Qt.move rfl) ?_
                  refine RW.q 8 rfl rfl (by kernel_rfl) Sub.any (Qt.slice_ssn 8 (8 + nn) (e := 5) (sz := 1) (by kernel_rfl) rfl rfl rfl rfl (by omega) (by omega) (by omega)) ?_
                  refine RW.one 9 (by kernel_rfl) ?_
                  refine RO.eS rfl rfl (Ef.call (Bc.clone B [rB (.slice pa m ca) m al] (.slice (offA (offA pa ca st.length 1) (ca - st.length) 8 1) (8 + nn - 8) (ca - st.length - 8)) (((al.drop st.length).take (8 + nn)).drop 8) (8 + nn - 8) (by simp; omega) (rrest.part 8 (8 + nn) (by omega) (by simp; omega) (by omega) (by omega) rfl) (by omega)) Tryd.func60 rfl rfl rfl ?_)
                  rintro _ _ ⟨p5, c5, rfl, hp5, rfl⟩
                  try simp only [List.cons_append, List.nil_append]
                  refine ⟨Sub.any, ?_⟩
                  refine RW.q 10 rfl rfl (by kernel_rfl) Sub.any (Qt.build [(0, 1), (1, 1)] [.int .i64 0, .slice none 0 0] [_, _] [(0, _), (1, _)] (by kernel_rfl) (by unfold zeroB; kernel_rfl) rfl rfl) ?_
                  refine RW.one 11 (by kernel_rfl) ?_
                  refine RO.eS rfl rfl (Ef.one [_, _] (e := 59) (sz := 2) (by kernel_rfl) ⟨.agg #[.int .i64 0, .slice none 0 0], by kernel_rfl, rfl⟩ rfl rfl rfl (by omega) (by omega) ?_)
                  intro g144
                  refine ⟨Sub.any, ?_⟩
                  refine RW.one 12 (by kernel_rfl) ?_
                  refine RO.eS rfl rfl (Ef.append WRec.elem rfl rfl (SrcOf.blk (by kernel_rfl) rfl (by simp [Value.oneCell'])) (by unfold maxLen; omega) (by omega) ?_)
                  rintro p6 c6 hp6
                  try simp only [List.cons_append, List.nil_append]
                  refine ⟨Sub.any, ?_⟩
                  refine RW.done (by rfl) ?_
                  simp only [List.drop_succ_cons, List.drop_zero, List.drop_nil]
                  refine LW.q rfl (Qt.assign rfl) ?_
                  refine LW.done ?_
                  have hsc2 := hsc.next hk ht (q := p5) (c := c5)
                  rw [hlen2] at hsc2
                  refine ⟨_, ?_, _, ⟨_, st2.length, st2, s', p4, c4, _, p6, c6, nq + 1, ⟨by omega, by rw [← hlen2, List.take_add, ← hst, hst2], rfl, by simp [hnq], by omega, hp4, hc4, hsc2⟩, rfl, (updS rfl (updS rfl (updS rfl (updS rfl rfl)))), rfl⟩, Sub.wrecAdd R ⟨st2.length, p5, c5, ((al.drop st.length).take (8 + nn)).drop 8⟩ p6 (nq + 1) c6 (8 + nn - 8) (by simp; omega)⟩
                  first | omega | (simp; omega)
end Go.Proofs.YtjjhbpjbngdlnaaDoor
