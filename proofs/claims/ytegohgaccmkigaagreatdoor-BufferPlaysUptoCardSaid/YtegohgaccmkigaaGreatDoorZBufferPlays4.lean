/- The texts WlG WlH WlI WlJ WlK BfA BfB, one behind the other: what the law leans on. Conditions: as each theorem says. -/
import Derived.Test.YtegohgaccmkigaaGreatDoorZBufferPlays3
/- The package wal: Open. UNDER WAY. Conditions: sizes. -/
set_option linter.unusedSimpArgs false
set_option linter.unusedVariables false
namespace Go.Proofs.YtegohgaccmkigaaGreatDoor
open Go.RowKit

/-- A quiet operation, taken in its turn. -/
theorem Ef.qt {P : Program} {B : Base} {n : Nat} {o : Oper} {f : Fr} {l : List Assn} {K : Value → List Assn → Prop} {v : Value} (hq : Qt P B n l o f v) (h : K v l) : Ef P B n o f l K := ⟨fun w next Q ho hk => by
  unfold Oper.wp
  rw [eval_act', hq.run w ho]
  exact hk _ _ _ h ho⟩
/-- The bytes of sectors as they are read. -/
def allD (D : DD) (first n : Nat) : List UInt8 := (List.range n).flatMap fun i => D.read (first + i)

structure WRec where
  mark : Nat
  r : Rec
abbrev wrecC (x : WRec) : List Value := [.int .i64 x.mark, recV x.r]
abbrev wrecR (q : Option Addr) (n c : Nat) (R : List WRec) : Assn := row (.slice q n c) 124 2 n (R.flatMap wrecC)
theorem allD_snoc (D : DD) (first n : Nat) : allD D first n ++ D.read (first + n) = allD D first (n + 1) := by simp [allD, List.range_succ]

theorem WRec.elem : ElemOk Tryz.prog 72 124 2 32 := .mk' (.agg #[.int .i64 0, .slice none 0 0]) Tryz.underlying72 (by kernel_rfl) rfl (by omega)
theorem takeRec_short {al : List UInt8} {k : Nat} {s : UInt32} (h : al.length - k < 8) : takeRec al k s = none := by
  unfold takeRec; rw [if_pos (by simpa using h)]
theorem takeRec_no {al : List UInt8} {k nn : Nat} {s : UInt32} (hnn : (get64 ((al.drop k).take 4)).toNat = nn) (h : nn = 0 ∨ 1024 < nn ∨ al.length - k - 8 < nn ∨ sealW s k (((al.drop k).take (8 + nn)).drop 8) ≠ (get64 (((al.drop k).take 8).drop 4)).toUInt32) : takeRec al k s = none := by
  unfold takeRec
  rw [hnn]
  by_cases h8 : (al.drop k).length < 8
  · rw [if_pos h8]
  · rw [if_neg h8, if_pos (by simpa using h)]
theorem takeRec_yes {al : List UInt8} {k nn : Nat} {s : UInt32} (hnn : (get64 ((al.drop k).take 4)).toNat = nn) (h8 : 8 ≤ al.length - k) (h0 : nn ≠ 0) (h1 : nn ≤ 1024) (h2 : nn ≤ al.length - k - 8) (h3 : sealW s k (((al.drop k).take (8 + nn)).drop 8) = (get64 (((al.drop k).take 8).drop 4)).toUInt32) : takeRec al k s = some (nn, (get64 (((al.drop k).take 8).drop 4)).toUInt32) := by
  unfold takeRec
  rw [hnn, if_neg (by simp; omega), if_neg (by simp [h3]; omega)]
/-- What is left to scan, behind the records R. -/
def ScanF (al : List UInt8) (m k : Nat) (s : UInt32) (R : List WRec) : Prop := ∃ f, m < f + k ∧ scanW al (m + 1) 0 0 = ((scanW al f k s).1, (scanW al f k s).2.1, R.map (fun x => (x.mark, x.r.b)) ++ (scanW al f k s).2.2)
theorem ScanF.init (al : List UInt8) (m : Nat) : ScanF al m 0 0 [] := ⟨m + 1, by omega, rfl⟩
theorem ScanF.stop {al : List UInt8} {m k : Nat} {s : UInt32} {R : List WRec} (h : ScanF al m k s R) (ht : takeRec al k s = none) : scanW al (m + 1) 0 0 = (k, s, R.map (fun x => (x.mark, x.r.b))) := by
  obtain ⟨f, _, e⟩ := h
  have : scanW al f k s = (k, s, []) := by cases f with
    | zero => rfl
    | succ f => rw [scanW, ht]
  rw [e, this, List.append_nil]
theorem ScanF.next {al : List UInt8} {m k nn : Nat} {s s' : UInt32} {R : List WRec} (h : ScanF al m k s R) (hk : k ≤ m) (ht : takeRec al k s = some (nn, s')) {q : Option Addr} {c : Nat} : ScanF al m (k + (8 + nn)) s' (R ++ [⟨k + (8 + nn), q, c, ((al.drop k).take (8 + nn)).drop 8⟩]) := by
  obtain ⟨f, hf, e⟩ := h
  cases f with
  | zero => omega
  | succ f =>
    refine ⟨f, by omega, ?_⟩
    rw [e, scanW, ht]
    simp
theorem wrec_nil {B : Base} {w : World} {l : List Assn} (H : Own B w l) : Own B w (wrecR none 0 0 [] :: recsA (List.map WRec.r []) :: l) :=
  Own.row_nil (H.map fun h k => show Has (recsA [] :: l) h from ⟨fun _ => none, h, ⟨fun _ => .inl rfl⟩, ⟨fun _ _ h => (by cases h)⟩, Piece.le_refl _, trivial, k⟩) _ _

theorem Sub.wrecAdd {l r m : List Assn} (R : List WRec) (x : WRec) (q : Option Addr) (n c z : Nat) (hz : x.r.b.length = z) [k : TakeL [row (.slice q n c) 124 2 n (R.flatMap wrecC ++ [.int .i64 x.mark, .slice x.r.p z x.r.c]), recsA (R.map WRec.r), rB (.slice x.r.p z x.r.c) z x.r.b] l r] [t : SubC (wrecR q n c (R ++ [x]) :: recsA ((R ++ [x]).map WRec.r) :: r) m] : Sub l m := fun h H => by
  subst hz
  have H1 := k.take h H
  refine t.sub h ?_
  rw [List.map_append]
  refine Has.cons_imp (fun _ k => recsA_snoc k) (m := _) (l := recsA (R.map WRec.r) :: recA x.r :: r) ?_
  have e : (R ++ [x]).flatMap wrecC = R.flatMap wrecC ++ [.int .i64 x.mark, .slice x.r.p x.r.b.length x.r.c] := by simp [wrecC, recV]
  show Has (wrecR q n c (R ++ [x]) :: _) h
  unfold wrecR
  rw [e]
  exact H1
/-- What Open leaves: the log, its records, the disk wiped behind them. -/
def OpenW (b first count : Nat) (al : List UInt8) (D : DD) (u : Value) (l : List Assn) : Prop := ∃ g p c q cq R k s, scanW al (count * 256 + 1) 0 0 = (k, s, R.map fun x => (x.mark, x.r.b)) ∧ k ≤ count * 256 ∧ (0 < k → ∃ g, p = some ⟨g, 0, none⟩) ∧ k ≤ c ∧ (al.take k).length = k ∧
  u = .tuple #[.pointer (some ⟨g, 0, none⟩), .slice q R.length cq, .int .i64 0] ∧ l = [wrecR q R.length cq R, recsA (R.map WRec.r), rB (.slice p k c) k (al.take k), wlB g b ⟨first, count, al.take k, s, k⟩ p c, dskA b (wipeD ⟨first, count, al.take k, s, k⟩ al D (k / 256) (count - k / 256)).sync]

theorem OpenW.mk {b first n m : Nat} {al st : List UInt8} {D : DD} {s : UInt32} {R : List WRec} {g c cq nq : Nat} {p q : Option Addr} {u : Value} {l : List Assn} (hm : m = n * 256) (hk : st.length ≤ m) (hst : st = al.take st.length) (hnq : nq = R.length) (hp : 0 < st.length → ∃ g, p = some ⟨g, 0, none⟩) (hkc : st.length ≤ c) (hsc : ScanF al m st.length s R) (ht : takeRec al st.length s = none)
    (hu : u = .tuple #[.pointer (some ⟨g, 0, none⟩), .slice q nq cq, .int .i64 0]) (hl : l = [wrecR q nq cq R, recsA (R.map WRec.r), rB (.slice p st.length c) st.length st, wlB g b ⟨first, n, st, s, st.length⟩ p c, dskA b (wipeD ⟨first, n, st, s, st.length⟩ al D (st.length / 256) (n - st.length / 256)).sync]) : OpenW b first n al D u l := by
  subst hm hnq
  have e := hsc.stop ht
  obtain ⟨k, hk2⟩ : ∃ k, st.length = k := ⟨_, rfl⟩
  rw [hk2] at hst hk hp hkc e hl
  subst hst
  exact ⟨g, p, c, q, cq, R, k, s, e, hk, hp, hkc, hk2, hu, hl⟩

set_option maxHeartbeats 4000000 in
set_option maxRecDepth 100000 in
theorem Wl.open (B : Base) (b : Nat) (D : DD) (first count : Nat) (h1 : 1 ≤ count) (hD : first + count ≤ D.secs.length) (hs : D.secs.length ≤ 4096) (hroom : D.pend.length + 4096 < 2 ^ 32) (hrl : ∀ n, n < D.secs.length → (D.read n).length = 256) :
  Fn Tryz.prog B 20 #[.pointer (some ⟨b, 0, none⟩), .int .i64 first, .int .i64 count] [dskA b D] (OpenW b first count (allD D first count) D) := by
 refine Fn.enter3 159 Tryz.func20 rfl rfl (Nat.le_of_ble_eq_true rfl) (fun F => ?_)
 try simp only [List.cons_append, List.nil_append]
 refine T.seq ?_
 refine T.region ?_
 refine LW.q rfl (Qt.assign rfl) ?_
 refine LW.q rfl (Qt.assign rfl) ?_
 refine LW.q rfl (Qt.assign rfl) ?_
 refine LW.done ?_
 refine T.seq ?_
 refine T.seq ?_
 refine T.region ?_
 refine LW.q rfl (Qt.move rfl) ?_
 refine LW.q rfl (Qt.lss rfl rfl) ?_
 refine LW.q rfl (Qt.move rfl) ?_
 first | refine LW.gF (t := 21) rfl rfl ?_ | refine LW.gF (t := 21) rfl (decide_eq_false (by omega)) ?_ | refine LW.gF (t := 21) rfl (by omega) ?_
 refine LW.q rfl (Qt.move rfl) ?_
 refine LW.q rfl (Qt.lss rfl rfl) ?_
 refine LW.q rfl (Qt.pick rfl rfl) ?_
 refine LW.q rfl (Qt.move rfl) ?_
 first | refine LW.gF (t := 25) rfl rfl ?_ | refine LW.gF (t := 25) rfl (decide_eq_false (by omega)) ?_ | refine LW.gF (t := 25) rfl (by omega) ?_
 refine LW.q rfl (Qt.move rfl) ?_
 refine LW.q rfl (Qt.move rfl) ?_
 refine LW.q rfl (Qt.nilCheck rfl) ?_
 refine LW.q rfl (Qt.fieldAddr0 (by kernel_rfl) rfl) ?_
 refine LW.e rfl (Ef.call (Dk.sectorsF B b D) Tryz.func44 rfl rfl rfl ?_)
 rintro _ _ ⟨rfl, rfl⟩
 try simp only [List.cons_append, List.nil_append]
 refine LW.q rfl (Qt.gtr rfl rfl) ?_
 refine LW.q rfl (Qt.pick rfl rfl) ?_
 refine LW.q rfl (Qt.move rfl) ?_
 first | refine LW.gF (t := 33) rfl rfl ?_ | refine LW.gF (t := 33) rfl (decide_eq_false (by omega)) ?_ | refine LW.gF (t := 33) rfl (by omega) ?_
 refine LW.q rfl (Qt.move rfl) ?_
 refine LW.q rfl (Qt.move rfl) ?_
 refine LW.q rfl (Qt.nilCheck rfl) ?_
 refine LW.q rfl (Qt.fieldAddr0 (by kernel_rfl) rfl) ?_
 refine LW.e rfl (Ef.call (Dk.sectorsF B b D) Tryz.func44 rfl rfl rfl ?_)
 rintro _ _ ⟨rfl, rfl⟩
 try simp only [List.cons_append, List.nil_append]
 refine LW.q rfl (Qt.move rfl) ?_
 refine LW.q rfl (Qt.sub rfl rfl (wr64 (by omega) (by omega))) ?_
 refine LW.q rfl (Qt.gtr rfl rfl) ?_
 refine LW.q rfl (Qt.pick rfl rfl) ?_
 refine LW.done ?_
 first | refine T.condF rfl ?_ | refine T.condPF rfl (by omega) ?_ | refine T.condBF rfl (by omega) ?_
 refine T.skip ?_
 refine T.seq ?_
 refine T.region ?_
 refine LW.q rfl (Qt.move rfl) ?_
 refine LW.q rfl (Qt.move rfl) ?_
 refine LW.q rfl (Qt.move rfl) ?_
 refine LW.q rfl (Qt.build [(0, 1), (1, 1), (2, 1)] [.pointer none, .int .i64 0, .int .i64 0] [_, _, _] [(0, _), (1, _), (2, _)] (by kernel_rfl) (by unfold zeroB; kernel_rfl) rfl rfl) ?_
 refine LW.q rfl (Qt.build [(0, 3), (3, 1), (4, 1), (5, 1)] [.pointer none, .int .i64 0, .int .i64 0, .slice none 0 0, .int .u32 0, .int .i64 0] [_, _, _, _, _, _] [(0, _)] (by kernel_rfl) (by unfold zeroB; kernel_rfl) rfl rfl) ?_
 refine LW.e rfl (Ef.box [_, _, _, _, _, _] rfl rfl ?_)
 intro g48
 refine LW.conv (l' := rB (.slice none 0 0) 0 (allD D first 0) :: wlB g48 b ⟨first, count, [], 0, 0⟩ none 0 :: dskA b D :: F) (fun w ho => ho.row_nil _ _) ?_
 refine LW.q rfl (Qt.assign rfl) ?_
 refine LW.done ?_
 refine T.seq ?_
 refine T.region ?_
 refine LW.q rfl (Qt.assign rfl) ?_
 refine LW.done ?_
 refine T.seq ?_
 refine T.seq ?_
 refine T.region ?_
 refine LW.q rfl (Qt.move rfl) ?_
 refine LW.q rfl (Qt.move rfl) ?_
 refine LW.done ?_
 refine T.block ?_
 refine T.loop (fun mz fz lz => ∃ (f0 : Fr) (n m : Nat) (pa : Option Addr) (ca : Nat), (n ≤ count ∧ m = n * 256 ∧ (allD D first n).length = m) ∧ mz = count - n ∧ fz = (upd (upd (upd (upd (upd (upd (upd f0 0 (.pointer (some ⟨b, 0, none⟩))) 1 (.int .i64 first)) 2 (.int .i64 count)) 9 (.pointer (some ⟨g48, 0, none⟩))) 10 (.slice pa m ca)) 49 (.int .i64 count)) 50 (.int .i64 n)) ∧ lz = rB (.slice pa m ca) m (allD D first n) :: wlB g48 b ⟨first, count, [], 0, 0⟩ none 0 :: dskA b D :: F) ?_ ?_
 · refine ⟨_, _, ⟨_, 0, 0, none, 0, ⟨Nat.zero_le _, rfl, rfl⟩, rfl, (updS rfl (updS rfl (updS rfl (updS rfl (updS rfl (updS rfl (updS rfl rfl))))))), rfl⟩, Sub.any⟩
 ·
  rintro mz fz lz ⟨f0, n, m, pa, ca, ⟨hn, hm, hal⟩, hmz, rfl, rfl⟩
  subst mz
  try simp only [List.cons_append, List.nil_append]
  refine T.seq ?_
  refine T.region ?_
  refine LW.q rfl (Qt.lss rfl rfl) ?_
  refine LW.done ?_
  refine T.seq ?_
  refine T.condP rfl (fun hlt => ?_) (fun hlt => ?_)
  ·
   refine T.skip ?_
   refine T.seq ?_
   refine T.block ?_
   refine T.seq ?_
   refine T.region ?_
   refine LW.q rfl (Qt.move rfl) ?_
   refine LW.q rfl (Qt.assign rfl) ?_
   refine LW.done ?_
   refine T.seq ?_
   refine T.region ?_
   refine LW.q rfl (Qt.move rfl) ?_
   refine LW.q rfl (Qt.move rfl) ?_
   refine LW.q rfl (Qt.move rfl) ?_
   refine LW.q rfl (Qt.add rfl rfl (wr64 (by omega) (by omega))) ?_
   refine LW.e rfl (Ef.call (Dk.readF B b D (first + n) _ (by omega) (by omega) (by omega)) Tryz.func16 rfl rfl rfl ?_)
   rintro _ _ ⟨gr, cr, rfl, rfl⟩
   try simp only [List.cons_append, List.nil_append]
   refine LW.q rfl (Qt.move rfl) ?_
   refine LW.q rfl (Qt.extract rfl rfl) ?_
   refine LW.q rfl (Qt.extract rfl rfl) ?_
   refine LW.q rfl (Qt.assign rfl) ?_
   refine LW.q rfl (Qt.assign rfl) ?_
   refine LW.done ?_
   refine T.region ?_
   refine LW.q rfl (Qt.move rfl) ?_
   refine LW.q rfl (Qt.move rfl) ?_
   refine LW.e rfl (Ef.append (u := .slice (some ⟨gr, 0, none⟩) 256 cr) (m := 256) (news := bytesV (D.read (first + n))) Cd.elemB rfl rfl (SrcOf.row (by kernel_rfl) one_bytesV) (by unfold maxLen; omega) (by omega) ?_)
   rintro p2 c2 hp2
   try simp only [List.cons_append, List.nil_append]
   rw [← bytesV_append, allD_snoc]
   refine LW.q rfl (Qt.assign rfl) ?_
   refine LW.done ?_
   refine T.region ?_
   refine LW.q rfl (Qt.add rfl rfl (wr64 (by omega) (by omega))) ?_
   refine LW.q rfl (Qt.move rfl) ?_
   refine LW.done ?_
   refine ⟨_, ?_, _, ⟨_, n + 1, m + 256, p2, c2, ⟨by omega, by omega, by rw [← allD_snoc, List.length_append, hal, hrl _ (by omega)]⟩, rfl, (updS rfl (updS rfl (updS rfl (updS rfl (updS rfl (updS rfl (updS rfl rfl))))))), rfl⟩, Sub.any⟩
   first | omega | (simp; omega)
  ·
   obtain rfl : n = count := by omega
   obtain ⟨al, hall⟩ : ∃ al, allD D first n = al := ⟨_, rfl⟩
   rw [hall] at hal
   rw [hall]
   refine T.own (fun w ho => ?_)
   have hpa : 0 < m → ∃ g, pa = some ⟨g, 0, none⟩ := (ho.slice_at (p := pa) (m := m) (c := ca)).2.1
   have hmca : m ≤ ca := ho.cap_at (p := pa) (m := m) (c := ca)
   clear ho
   have rall : RdV B [rB (.slice pa m ca) m al] (.slice pa m ca) (bytesV al) := RdV.rB hal hpa
   refine T.conv (l' := wrecR none 0 0 [] :: recsA (List.map WRec.r []) :: rB (.slice none 0 0) 0 (al.take 0) :: rB (.slice pa m ca) m al :: wlB g48 b ⟨first, n, al.take 0, 0, 0⟩ none 0 :: dskA b D :: F) (fun w ho => wrec_nil (ho.row_nil _ _)) ?_
   refine T.exit ?_
   refine T.seq ?_
   refine T.region ?_
   refine LW.q rfl (Qt.assign rfl) ?_
   refine LW.done ?_
   refine T.seq ?_
   refine T.block ?_
   refine T.loop (fun mz fz lz => ∃ (f0 : Fr) (k : Nat) (st : List UInt8) (s : UInt32) (p : Option Addr) (c : Nat) (R : List WRec) (q : Option Addr) (cq nq : Nat), (k ≤ m ∧ st = al.take k ∧ st.length = k ∧ nq = R.length ∧ nq ≤ k ∧ (0 < k → ∃ g, p = some ⟨g, 0, none⟩) ∧ k ≤ c ∧ ScanF al m k s R) ∧ mz = m - k ∧ fz = (upd (upd (upd (upd f0 0 (.pointer (some ⟨b, 0, none⟩))) 9 (.pointer (some ⟨g48, 0, none⟩))) 10 (.slice pa m ca)) 14 (.slice q nq cq)) ∧ lz = wrecR q nq cq R :: recsA (R.map WRec.r) :: rB (.slice p k c) k st :: rB (.slice pa m ca) m al :: wlB g48 b ⟨first, n, st, s, 0⟩ p c :: dskA b D :: F) ?_ ?_
   · refine ⟨_, _, ⟨_, 0, al.take 0, 0, none, 0, [], none, 0, 0, ⟨Nat.zero_le _, rfl, rfl, rfl, Nat.le_refl _, fun h => by omega, Nat.le_refl _, ScanF.init al m⟩, rfl, (updS rfl (updS rfl (updS rfl (updS rfl rfl)))), rfl⟩, Sub.any⟩
   ·
    rintro mz fz lz ⟨f0, k, st, s, p, c, R, q, cq, nq, ⟨hk, hst, hstl, hnq, hnk, hp, hkc, hsc⟩, hmz, rfl, rfl⟩
    subst mz
    try simp only [List.cons_append, List.nil_append]
    have rrest := rall.dropB k (by omega) hal hmca
    refine T.block ?_
    refine T.seq ?_
    refine T.region ?_
    refine LW.q rfl (Qt.move rfl) ?_
    refine LW.q rfl (Qt.move rfl) ?_
    refine LW.q rfl (Qt.nilCheck rfl) ?_
    refine LW.q rfl (Qt.fieldAddr (off := 3) (by kernel_rfl) rfl) ?_
    first | refine LW.q rfl (Qt.load (by kernel_rfl) rfl rfl) ?_ | refine LW.q rfl (Qt.load (by kernel_rfl) rfl (map_at _ _ _ (by omega))) ?_ | refine LW.q rfl (Qt.load (by kernel_rfl) rfl (flat_cell0 _ _ _ (by intros; rfl) _ (by omega) (by rfl))) ?_ | refine LW.q rfl (Qt.load (by kernel_rfl) rfl (flat_cell _ _ _ (by intros; rfl) _ _ (by omega) (by rfl))) ?_ | refine LW.q rfl (Qt.load (by kernel_rfl) rfl (bytes_at _ _ (by omega))) ?_
    refine LW.q rfl (Qt.len (e := 5) (sz := 1) (by kernel_rfl) rfl) ?_
    refine LW.q rfl (Qt.slice_snn k (e := 5) (sz := 1) (by kernel_rfl) rfl rfl (by show (st.length : Int) = k; omega) (by omega)) ?_
    refine LW.q rfl (Qt.assign rfl) ?_
    refine LW.done ?_
    refine T.seq ?_
    refine T.seq ?_
    refine T.region ?_
    refine LW.q rfl (Qt.move rfl) ?_
    refine LW.q rfl (Qt.len (e := 5) (sz := 1) (by kernel_rfl) rfl) ?_
    refine LW.q rfl (Qt.lss rfl rfl) ?_
    refine LW.done ?_
    refine T.condP rfl (fun h8 => ?_) (fun h8 => ?_)
    ·
     subst hstl
     refine T.exit ?_
     refine T.seq ?_
     refine T.region ?_
     refine LW.q rfl (Qt.move rfl) ?_
     refine LW.q rfl (Qt.move rfl) ?_
     refine LW.q rfl (Qt.nilCheck rfl) ?_
     refine LW.q rfl (Qt.fieldAddr (off := 3) (by kernel_rfl) rfl) ?_
     first | refine LW.q rfl (Qt.load (by kernel_rfl) rfl rfl) ?_ | refine LW.q rfl (Qt.load (by kernel_rfl) rfl (map_at _ _ _ (by omega))) ?_ | refine LW.q rfl (Qt.load (by kernel_rfl) rfl (flat_cell0 _ _ _ (by intros; rfl) _ (by omega) (by rfl))) ?_ | refine LW.q rfl (Qt.load (by kernel_rfl) rfl (flat_cell _ _ _ (by intros; rfl) _ _ (by omega) (by rfl))) ?_ | refine LW.q rfl (Qt.load (by kernel_rfl) rfl (bytes_at _ _ (by omega))) ?_
     refine LW.q rfl (Qt.len (e := 5) (sz := 1) (by kernel_rfl) rfl) ?_
     refine LW.q rfl (Qt.nilCheck rfl) ?_
     refine LW.q rfl (Qt.fieldAddr (off := 5) (by kernel_rfl) rfl) ?_
     refine LW.e0 rfl (Ef.store1 (by kernel_rfl) rfl rfl rfl (by first | (simp; done) | (simp; omega)) ?_)
     try simp only [List.set_cons_zero, List.set_cons_succ]
     refine LW.done ?_
     refine T.seq ?_
     refine T.region ?_
     refine LW.q rfl (Qt.move rfl) ?_
     refine LW.q rfl (Qt.move rfl) ?_
     refine LW.e rfl (Ef.call (Wl.wipe B [rB (.slice pa m ca) m al] g48 b ⟨first, n, st, s, st.length⟩ p c hp hkc D pa m ca al rall hal hmca hm hD hs (by show st.length ≤ n * 256; omega) (Nat.le_refl _) hroom) Tryz.func47 rfl rfl rfl ?_)
     rintro _ _ ⟨rfl, rfl⟩
     try simp only [List.cons_append, List.nil_append]
     refine LW.done ?_
     refine T.seq ?_
     refine T.region ?_
     refine LW.q rfl (Qt.move rfl) ?_
     refine LW.q rfl (Qt.move rfl) ?_
     refine LW.q rfl (Qt.assign rfl) ?_
     refine LW.q rfl (Qt.assign rfl) ?_
     refine LW.q rfl (Qt.assign rfl) ?_
     refine LW.done ?_
     refine T.ret ?_
     exact ⟨.inl rfl, _, _, res [_, _, _] rfl ⟨rvT rfl, rvT rfl, rvT rfl, trivial⟩, OpenW.mk hm hk hst hnq hp hkc hsc (takeRec_short (by omega)) rfl rfl, Sub.any⟩
    ·
     refine T.skip ?_
     refine T.seq ?_
     refine T.drawBl 8 none (by kernel_rfl) (Nat.le_of_ble_eq_true rfl) (by kernel_rfl) ?_
     refine RW.q 0 rfl rfl (by kernel_rfl) Sub.any (Qt.move rfl) ?_
     refine RW.q 1 rfl rfl (by kernel_rfl) Sub.any (Qt.slice_nsn 4 (e := 5) (sz := 1) (by kernel_rfl) rfl rfl rfl (by omega)) ?_
     refine RW.q 3 rfl rfl (by kernel_rfl) Sub.any (Qt.move rfl) ?_
     refine RW.q 4 rfl rfl (by kernel_rfl) Sub.any (Qt.slice_ssn 4 8 (e := 5) (sz := 1) (by kernel_rfl) rfl rfl rfl rfl rfl (by omega) (by omega)) ?_
     refine RW.one 2 (by kernel_rfl) ?_
     refine RO.eS rfl rfl (Ef.call (Cd.get B [rB (.slice pa m ca) m al] (.slice (offA pa ca k 1) 4 (ca - k)) ((al.drop k).take 4) (rrest.takeB 4 (ca - k) (by simp; omega)) (by simp; omega)) Tryz.func45 rfl rfl rfl ?_)
     rintro _ _ ⟨rfl, rfl⟩
     try simp only [List.cons_append, List.nil_append]
     refine ⟨Sub.any, ?_⟩
     refine RW.one 5 (by kernel_rfl) ?_
     refine RO.eS rfl rfl (Ef.call (Cd.get B [rB (.slice pa m ca) m al] (.slice (offA (offA pa ca k 1) (ca - k) 4 1) 4 (ca - k - 4)) (((al.drop k).take 8).drop 4) (rrest.part 4 8 (by omega) (by simp; omega) (by omega) (by omega) rfl) (by simp; omega)) Tryz.func45 rfl rfl rfl ?_)
     rintro _ _ ⟨rfl, rfl⟩
     try simp only [List.cons_append, List.nil_append]
     refine ⟨Sub.any, ?_⟩
     refine RW.q 6 rfl rfl (by kernel_rfl) Sub.any (Qt.convI (by kernel_rfl) (by kernel_rfl) rfl (wru32_u64 _)) ?_
     refine RW.q 7 rfl rfl (by kernel_rfl) Sub.any (Qt.assign rfl) ?_
     refine RW.done (by rfl) ?_
     simp only [List.drop_succ_cons, List.drop_zero, List.drop_nil]
     refine LW.q rfl (Qt.assign rfl) ?_
     refine LW.done ?_
     refine T.seq ?_
     refine T.seq ?_
     obtain ⟨nn, hnn⟩ : ∃ nn, (get64 ((al.drop k).take 4)).toNat = nn := ⟨_, rfl⟩
     rw [hnn]
     refine T.drawAll 33 (by kernel_rfl) (Nat.le_of_ble_eq_true rfl) (by kernel_rfl) ?_
     refine RW.q 0 rfl rfl (by kernel_rfl) (Sub.refl _) (Qt.move rfl) ?_
     refine RW.q 1 rfl rfl (by kernel_rfl) (Sub.refl _) (Qt.eql rfl rfl) ?_
     refine RW.q 2 rfl rfl (by kernel_rfl) (Sub.refl _) (Qt.move rfl) ?_
     refine RW.split (t := 84) rfl (fun hz => ?_) (fun hz => ?_)
     ·
      try replace hz := of_decide_eq_true hz
      refine RW.s 3 rfl rfl (by kernel_rfl) (Sub.refl _) ?_
      refine RW.s 4 rfl rfl (by kernel_rfl) (Sub.refl _) ?_
      refine RW.q 5 rfl rfl (by kernel_rfl) (Sub.refl _) (Qt.pick rfl rfl) ?_
      refine RW.q 6 rfl rfl (by kernel_rfl) (Sub.refl _) (Qt.move rfl) ?_
      first | refine RW.gT (t := 88) rfl rfl ?_ | refine RW.gT (t := 88) rfl (decide_eq_true (by omega)) ?_ | refine RW.gT (t := 88) rfl (by omega) ?_
      refine RW.s 7 rfl rfl (by kernel_rfl) (Sub.refl _) ?_
      refine RW.s 8 rfl rfl (by kernel_rfl) (Sub.refl _) ?_
      refine RW.s 9 rfl rfl (by kernel_rfl) (Sub.refl _) ?_
      refine RW.s 10 rfl rfl (by kernel_rfl) (Sub.refl _) ?_
      refine RW.s 11 rfl rfl (by kernel_rfl) (Sub.refl _) ?_
      refine RW.s 12 rfl rfl (by kernel_rfl) (Sub.refl _) ?_
      refine RW.q 13 rfl rfl (by kernel_rfl) (Sub.refl _) (Qt.pick rfl rfl) ?_
      refine RW.q 14 rfl rfl (by kernel_rfl) (Sub.refl _) (Qt.move rfl) ?_
      first | refine RW.gT (t := 96) rfl rfl ?_ | refine RW.gT (t := 96) rfl (decide_eq_true (by omega)) ?_ | refine RW.gT (t := 96) rfl (by omega) ?_
      refine RW.s 15 rfl rfl (by kernel_rfl) (Sub.refl _) ?_
      refine RW.s 16 rfl rfl (by kernel_rfl) (Sub.refl _) ?_
      refine RW.s 17 rfl rfl (by kernel_rfl) (Sub.refl _) ?_
      refine RW.s 18 rfl rfl (by kernel_rfl) (Sub.refl _) ?_
      refine RW.s 19 rfl rfl (by kernel_rfl) (Sub.refl _) ?_
      refine RW.s 20 rfl rfl (by kernel_rfl) (Sub.refl _) ?_
      refine RW.s 21 rfl rfl (by kernel_rfl) (Sub.refl _) ?_
      refine RW.s 22 rfl rfl (by kernel_rfl) (Sub.refl _) ?_
      refine RW.s 23 rfl rfl (by kernel_rfl) (Sub.refl _) ?_
      refine RW.s 24 rfl rfl (by kernel_rfl) (Sub.refl _) ?_
      refine RW.s 25 rfl rfl (by kernel_rfl) (Sub.refl _) ?_
      refine RW.s 26 rfl rfl (by kernel_rfl) (Sub.refl _) ?_
      refine RW.s 27 rfl rfl (by kernel_rfl) (Sub.refl _) ?_
      refine RW.s 28 rfl rfl (by kernel_rfl) (Sub.refl _) ?_
      refine RW.s 29 rfl rfl (by kernel_rfl) (Sub.refl _) ?_
      refine RW.s 30 rfl rfl (by kernel_rfl) (Sub.refl _) ?_
      refine RW.s 31 rfl rfl (by kernel_rfl) (Sub.refl _) ?_
      refine RW.q 32 rfl rfl (by kernel_rfl) (Sub.refl _) (Qt.pick rfl rfl) ?_
      refine RW.done (by rfl) ?_
      simp only [List.drop_succ_cons, List.drop_zero, List.drop_nil]
      refine LW.done ?_
      first | refine T.condT rfl ?_ | refine T.condPT rfl (by omega) ?_ | refine T.condBT rfl (by omega) ?_
      subst hstl
      refine T.exit ?_
      refine T.seq ?_
      refine T.region ?_
      refine LW.q rfl (Qt.move rfl) ?_
      refine LW.q rfl (Qt.move rfl) ?_
      refine LW.q rfl (Qt.nilCheck rfl) ?_
      refine LW.q rfl (Qt.fieldAddr (off := 3) (by kernel_rfl) rfl) ?_
      first | refine LW.q rfl (Qt.load (by kernel_rfl) rfl rfl) ?_ | refine LW.q rfl (Qt.load (by kernel_rfl) rfl (map_at _ _ _ (by omega))) ?_ | refine LW.q rfl (Qt.load (by kernel_rfl) rfl (flat_cell0 _ _ _ (by intros; rfl) _ (by omega) (by rfl))) ?_ | refine LW.q rfl (Qt.load (by kernel_rfl) rfl (flat_cell _ _ _ (by intros; rfl) _ _ (by omega) (by rfl))) ?_ | refine LW.q rfl (Qt.load (by kernel_rfl) rfl (bytes_at _ _ (by omega))) ?_
      refine LW.q rfl (Qt.len (e := 5) (sz := 1) (by kernel_rfl) rfl) ?_
      refine LW.q rfl (Qt.nilCheck rfl) ?_
      refine LW.q rfl (Qt.fieldAddr (off := 5) (by kernel_rfl) rfl) ?_
      refine LW.e0 rfl (Ef.store1 (by kernel_rfl) rfl rfl rfl (by first | (simp; done) | (simp; omega)) ?_)
      try simp only [List.set_cons_zero, List.set_cons_succ]
      refine LW.done ?_
      refine T.seq ?_
      refine T.region ?_
      refine LW.q rfl (Qt.move rfl) ?_
      refine LW.q rfl (Qt.move rfl) ?_
      refine LW.e rfl (Ef.call (Wl.wipe B [rB (.slice pa m ca) m al] g48 b ⟨first, n, st, s, st.length⟩ p c hp hkc D pa m ca al rall hal hmca hm hD hs (by show st.length ≤ n * 256; omega) (Nat.le_refl _) hroom) Tryz.func47 rfl rfl rfl ?_)
      rintro _ _ ⟨rfl, rfl⟩
      try simp only [List.cons_append, List.nil_append]
      refine LW.done ?_
      refine T.seq ?_
      refine T.region ?_
      refine LW.q rfl (Qt.move rfl) ?_
      refine LW.q rfl (Qt.move rfl) ?_
      refine LW.q rfl (Qt.assign rfl) ?_
      refine LW.q rfl (Qt.assign rfl) ?_
      refine LW.q rfl (Qt.assign rfl) ?_
      refine LW.done ?_
      refine T.ret ?_
      exact ⟨.inl rfl, _, _, res [_, _, _] rfl ⟨rvT rfl, rvT rfl, rvT rfl, trivial⟩, OpenW.mk hm hk hst hnq hp hkc hsc (takeRec_no hnn (.inl (by omega))) rfl rfl, Sub.any⟩
     ·
      try replace hz := of_decide_eq_false hz
      refine RW.q 3 rfl rfl (by kernel_rfl) (Sub.refl _) (Qt.move rfl) ?_
      refine RW.q 4 rfl rfl (by kernel_rfl) (Sub.refl _) (Qt.gtr rfl rfl) ?_
      refine RW.q 5 rfl rfl (by kernel_rfl) (Sub.refl _) (Qt.pick rfl rfl) ?_
      refine RW.q 6 rfl rfl (by kernel_rfl) (Sub.refl _) (Qt.move rfl) ?_
      refine RW.split (t := 88) rfl (fun hbig => ?_) (fun hbig => ?_)
      ·
       try replace hbig := of_decide_eq_true hbig
       refine RW.s 7 rfl rfl (by kernel_rfl) (Sub.refl _) ?_
       refine RW.s 8 rfl rfl (by kernel_rfl) (Sub.refl _) ?_
       refine RW.s 9 rfl rfl (by kernel_rfl) (Sub.refl _) ?_
       refine RW.s 10 rfl rfl (by kernel_rfl) (Sub.refl _) ?_
       refine RW.s 11 rfl rfl (by kernel_rfl) (Sub.refl _) ?_
       refine RW.s 12 rfl rfl (by kernel_rfl) (Sub.refl _) ?_
       refine RW.q 13 rfl rfl (by kernel_rfl) (Sub.refl _) (Qt.pick rfl rfl) ?_
       refine RW.q 14 rfl rfl (by kernel_rfl) (Sub.refl _) (Qt.move rfl) ?_
       first | refine RW.gT (t := 96) rfl rfl ?_ | refine RW.gT (t := 96) rfl (decide_eq_true (by omega)) ?_ | refine RW.gT (t := 96) rfl (by omega) ?_
       refine RW.s 15 rfl rfl (by kernel_rfl) (Sub.refl _) ?_
       refine RW.s 16 rfl rfl (by kernel_rfl) (Sub.refl _) ?_
       refine RW.s 17 rfl rfl (by kernel_rfl) (Sub.refl _) ?_
       refine RW.s 18 rfl rfl (by kernel_rfl) (Sub.refl _) ?_
       refine RW.s 19 rfl rfl (by kernel_rfl) (Sub.refl _) ?_
       refine RW.s 20 rfl rfl (by kernel_rfl) (Sub.refl _) ?_
       refine RW.s 21 rfl rfl (by kernel_rfl) (Sub.refl _) ?_
       refine RW.s 22 rfl rfl (by kernel_rfl) (Sub.refl _) ?_
       refine RW.s 23 rfl rfl (by kernel_rfl) (Sub.refl _) ?_
       refine RW.s 24 rfl rfl (by kernel_rfl) (Sub.refl _) ?_
       refine RW.s 25 rfl rfl (by kernel_rfl) (Sub.refl _) ?_
       refine RW.s 26 rfl rfl (by kernel_rfl) (Sub.refl _) ?_
       refine RW.s 27 rfl rfl (by kernel_rfl) (Sub.refl _) ?_
       refine RW.s 28 rfl rfl (by kernel_rfl) (Sub.refl _) ?_
       refine RW.s 29 rfl rfl (by kernel_rfl) (Sub.refl _) ?_
       refine RW.s 30 rfl rfl (by kernel_rfl) (Sub.refl _) ?_
       refine RW.s 31 rfl rfl (by kernel_rfl) (Sub.refl _) ?_
       refine RW.q 32 rfl rfl (by kernel_rfl) (Sub.refl _) (Qt.pick rfl rfl) ?_
       refine RW.done (by rfl) ?_
       simp only [List.drop_succ_cons, List.drop_zero, List.drop_nil]
       refine LW.done ?_
       first | refine T.condT rfl ?_ | refine T.condPT rfl (by omega) ?_ | refine T.condBT rfl (by omega) ?_
       subst hstl
       refine T.exit ?_
       refine T.seq ?_
       refine T.region ?_
       refine LW.q rfl (Qt.move rfl) ?_
       refine LW.q rfl (Qt.move rfl) ?_
       refine LW.q rfl (Qt.nilCheck rfl) ?_
       refine LW.q rfl (Qt.fieldAddr (off := 3) (by kernel_rfl) rfl) ?_
       first | refine LW.q rfl (Qt.load (by kernel_rfl) rfl rfl) ?_ | refine LW.q rfl (Qt.load (by kernel_rfl) rfl (map_at _ _ _ (by omega))) ?_ | refine LW.q rfl (Qt.load (by kernel_rfl) rfl (flat_cell0 _ _ _ (by intros; rfl) _ (by omega) (by rfl))) ?_ | refine LW.q rfl (Qt.load (by kernel_rfl) rfl (flat_cell _ _ _ (by intros; rfl) _ _ (by omega) (by rfl))) ?_ | refine LW.q rfl (Qt.load (by kernel_rfl) rfl (bytes_at _ _ (by omega))) ?_
       refine LW.q rfl (Qt.len (e := 5) (sz := 1) (by kernel_rfl) rfl) ?_
       refine LW.q rfl (Qt.nilCheck rfl) ?_
       refine LW.q rfl (Qt.fieldAddr (off := 5) (by kernel_rfl) rfl) ?_
       refine LW.e0 rfl (Ef.store1 (by kernel_rfl) rfl rfl rfl (by first | (simp; done) | (simp; omega)) ?_)
       try simp only [List.set_cons_zero, List.set_cons_succ]
       refine LW.done ?_
       refine T.seq ?_
       refine T.region ?_
       refine LW.q rfl (Qt.move rfl) ?_
       refine LW.q rfl (Qt.move rfl) ?_
       refine LW.e rfl (Ef.call (Wl.wipe B [rB (.slice pa m ca) m al] g48 b ⟨first, n, st, s, st.length⟩ p c hp hkc D pa m ca al rall hal hmca hm hD hs (by show st.length ≤ n * 256; omega) (Nat.le_refl _) hroom) Tryz.func47 rfl rfl rfl ?_)
       rintro _ _ ⟨rfl, rfl⟩
       try simp only [List.cons_append, List.nil_append]
       refine LW.done ?_
       refine T.seq ?_
       refine T.region ?_
       refine LW.q rfl (Qt.move rfl) ?_
       refine LW.q rfl (Qt.move rfl) ?_
       refine LW.q rfl (Qt.assign rfl) ?_
       refine LW.q rfl (Qt.assign rfl) ?_
       refine LW.q rfl (Qt.assign rfl) ?_
       refine LW.done ?_
       refine T.ret ?_
       exact ⟨.inl rfl, _, _, res [_, _, _] rfl ⟨rvT rfl, rvT rfl, rvT rfl, trivial⟩, OpenW.mk hm hk hst hnq hp hkc hsc (takeRec_no hnn (.inr (.inl (by omega)))) rfl rfl, Sub.any⟩
      ·
       try replace hbig := of_decide_eq_false hbig
       refine RW.q 7 rfl rfl (by kernel_rfl) (Sub.refl _) (Qt.move rfl) ?_
       refine RW.q 8 rfl rfl (by kernel_rfl) (Sub.refl _) (Qt.convI (by kernel_rfl) (by kernel_rfl) rfl (wr64 (by omega) (by omega))) ?_
       refine RW.q 9 rfl rfl (by kernel_rfl) (Sub.refl _) (Qt.move rfl) ?_
       refine RW.q 10 rfl rfl (by kernel_rfl) (Sub.refl _) (Qt.len (e := 5) (sz := 1) (by kernel_rfl) rfl) ?_
       refine RW.q 11 rfl rfl (by kernel_rfl) (Sub.refl _) (Qt.sub rfl rfl (wr64 (by omega) (by omega))) ?_
       refine RW.q 12 rfl rfl (by kernel_rfl) (Sub.refl _) (Qt.gtr rfl rfl) ?_
       refine RW.q 13 rfl rfl (by kernel_rfl) (Sub.refl _) (Qt.pick rfl rfl) ?_
       refine RW.q 14 rfl rfl (by kernel_rfl) (Sub.refl _) (Qt.move rfl) ?_
       refine RW.split (t := 96) rfl (fun hlen => ?_) (fun hlen => ?_)
       ·
        try replace hlen := of_decide_eq_true hlen
        refine RW.s 15 rfl rfl (by kernel_rfl) (Sub.refl _) ?_
        refine RW.s 16 rfl rfl (by kernel_rfl) (Sub.refl _) ?_
        refine RW.s 17 rfl rfl (by kernel_rfl) (Sub.refl _) ?_
        refine RW.s 18 rfl rfl (by kernel_rfl) (Sub.refl _) ?_
        refine RW.s 19 rfl rfl (by kernel_rfl) (Sub.refl _) ?_
        refine RW.s 20 rfl rfl (by kernel_rfl) (Sub.refl _) ?_
        refine RW.s 21 rfl rfl (by kernel_rfl) (Sub.refl _) ?_
        refine RW.s 22 rfl rfl (by kernel_rfl) (Sub.refl _) ?_
        refine RW.s 23 rfl rfl (by kernel_rfl) (Sub.refl _) ?_
        refine RW.s 24 rfl rfl (by kernel_rfl) (Sub.refl _) ?_
        refine RW.s 25 rfl rfl (by kernel_rfl) (Sub.refl _) ?_
        refine RW.s 26 rfl rfl (by kernel_rfl) (Sub.refl _) ?_
        refine RW.s 27 rfl rfl (by kernel_rfl) (Sub.refl _) ?_
        refine RW.s 28 rfl rfl (by kernel_rfl) (Sub.refl _) ?_
        refine RW.s 29 rfl rfl (by kernel_rfl) (Sub.refl _) ?_
        refine RW.s 30 rfl rfl (by kernel_rfl) (Sub.refl _) ?_
        refine RW.s 31 rfl rfl (by kernel_rfl) (Sub.refl _) ?_
        refine RW.q 32 rfl rfl (by kernel_rfl) (Sub.refl _) (Qt.pick rfl rfl) ?_
        refine RW.done (by rfl) ?_
        simp only [List.drop_succ_cons, List.drop_zero, List.drop_nil]
        refine LW.done ?_
        first | refine T.condT rfl ?_ | refine T.condPT rfl (by omega) ?_ | refine T.condBT rfl (by omega) ?_
        subst hstl
        refine T.exit ?_
        refine T.seq ?_
        refine T.region ?_
        refine LW.q rfl (Qt.move rfl) ?_
        refine LW.q rfl (Qt.move rfl) ?_
        refine LW.q rfl (Qt.nilCheck rfl) ?_
        refine LW.q rfl (Qt.fieldAddr (off := 3) (by kernel_rfl) rfl) ?_
        first | refine LW.q rfl (Qt.load (by kernel_rfl) rfl rfl) ?_ | refine LW.q rfl (Qt.load (by kernel_rfl) rfl (map_at _ _ _ (by omega))) ?_ | refine LW.q rfl (Qt.load (by kernel_rfl) rfl (flat_cell0 _ _ _ (by intros; rfl) _ (by omega) (by rfl))) ?_ | refine LW.q rfl (Qt.load (by kernel_rfl) rfl (flat_cell _ _ _ (by intros; rfl) _ _ (by omega) (by rfl))) ?_ | refine LW.q rfl (Qt.load (by kernel_rfl) rfl (bytes_at _ _ (by omega))) ?_
        refine LW.q rfl (Qt.len (e := 5) (sz := 1) (by kernel_rfl) rfl) ?_
        refine LW.q rfl (Qt.nilCheck rfl) ?_
        refine LW.q rfl (Qt.fieldAddr (off := 5) (by kernel_rfl) rfl) ?_
        refine LW.e0 rfl (Ef.store1 (by kernel_rfl) rfl rfl rfl (by first | (simp; done) | (simp; omega)) ?_)
        try simp only [List.set_cons_zero, List.set_cons_succ]
        refine LW.done ?_
        refine T.seq ?_
        refine T.region ?_
        refine LW.q rfl (Qt.move rfl) ?_
        refine LW.q rfl (Qt.move rfl) ?_
        refine LW.e rfl (Ef.call (Wl.wipe B [rB (.slice pa m ca) m al] g48 b ⟨first, n, st, s, st.length⟩ p c hp hkc D pa m ca al rall hal hmca hm hD hs (by show st.length ≤ n * 256; omega) (Nat.le_refl _) hroom) Tryz.func47 rfl rfl rfl ?_)
        rintro _ _ ⟨rfl, rfl⟩
        try simp only [List.cons_append, List.nil_append]
        refine LW.done ?_
        refine T.seq ?_
        refine T.region ?_
        refine LW.q rfl (Qt.move rfl) ?_
        refine LW.q rfl (Qt.move rfl) ?_
        refine LW.q rfl (Qt.assign rfl) ?_
        refine LW.q rfl (Qt.assign rfl) ?_
        refine LW.q rfl (Qt.assign rfl) ?_
        refine LW.done ?_
        refine T.ret ?_
        exact ⟨.inl rfl, _, _, res [_, _, _] rfl ⟨rvT rfl, rvT rfl, rvT rfl, trivial⟩, OpenW.mk hm hk hst hnq hp hkc hsc (takeRec_no hnn (.inr (.inr (.inl (by omega))))) rfl rfl, Sub.any⟩
       ·
        try replace hlen := of_decide_eq_false hlen
        refine RW.q 15 rfl rfl (by kernel_rfl) (Sub.refl _) (Qt.move rfl) ?_
        refine RW.q 16 rfl rfl (by kernel_rfl) (Sub.refl _) (Qt.nilCheck rfl) ?_
        refine RW.q 17 rfl rfl (by kernel_rfl) (Sub.refl _) (Qt.fieldAddr (off := 4) (by kernel_rfl) rfl) ?_
        first | refine RW.q 18 rfl rfl (by kernel_rfl) (Sub.refl _) (Qt.load (by kernel_rfl) rfl rfl) ?_ | refine RW.q 18 rfl rfl (by kernel_rfl) (Sub.refl _) (Qt.load (by kernel_rfl) rfl (map_at _ _ _ (by omega))) ?_ | refine RW.q 18 rfl rfl (by kernel_rfl) (Sub.refl _) (Qt.load (by kernel_rfl) rfl (flat_cell0 _ _ _ (by intros; rfl) _ (by omega) (by rfl))) ?_ | refine RW.q 18 rfl rfl (by kernel_rfl) (Sub.refl _) (Qt.load (by kernel_rfl) rfl (flat_cell _ _ _ (by intros; rfl) _ _ (by omega) (by rfl))) ?_ | refine RW.q 18 rfl rfl (by kernel_rfl) (Sub.refl _) (Qt.load (by kernel_rfl) rfl (bytes_at _ _ (by omega))) ?_
        refine RW.q 19 rfl rfl (by kernel_rfl) (Sub.refl _) (Qt.move rfl) ?_
        refine RW.q 20 rfl rfl (by kernel_rfl) (Sub.refl _) (Qt.nilCheck rfl) ?_
        refine RW.q 21 rfl rfl (by kernel_rfl) (Sub.refl _) (Qt.fieldAddr (off := 3) (by kernel_rfl) rfl) ?_
        first | refine RW.q 22 rfl rfl (by kernel_rfl) (Sub.refl _) (Qt.load (by kernel_rfl) rfl rfl) ?_ | refine RW.q 22 rfl rfl (by kernel_rfl) (Sub.refl _) (Qt.load (by kernel_rfl) rfl (map_at _ _ _ (by omega))) ?_ | refine RW.q 22 rfl rfl (by kernel_rfl) (Sub.refl _) (Qt.load (by kernel_rfl) rfl (flat_cell0 _ _ _ (by intros; rfl) _ (by omega) (by rfl))) ?_ | refine RW.q 22 rfl rfl (by kernel_rfl) (Sub.refl _) (Qt.load (by kernel_rfl) rfl (flat_cell _ _ _ (by intros; rfl) _ _ (by omega) (by rfl))) ?_ | refine RW.q 22 rfl rfl (by kernel_rfl) (Sub.refl _) (Qt.load (by kernel_rfl) rfl (bytes_at _ _ (by omega))) ?_
        refine RW.q 23 rfl rfl (by kernel_rfl) (Sub.refl _) (Qt.len (e := 5) (sz := 1) (by kernel_rfl) rfl) ?_
        refine RW.q 24 rfl rfl (by kernel_rfl) (Sub.refl _) (Qt.move rfl) ?_
        refine RW.q 25 rfl rfl (by kernel_rfl) (Sub.refl _) (Qt.move rfl) ?_
        refine RW.q 26 rfl rfl (by kernel_rfl) (Sub.refl _) (Qt.convI (by kernel_rfl) (by kernel_rfl) rfl (wr64 (by omega) (by omega))) ?_
        refine RW.q 27 rfl rfl (by kernel_rfl) (Sub.refl _) (Qt.add rfl rfl (wr64 (by omega) (by omega))) ?_
        refine RW.q 28 rfl rfl (by kernel_rfl) (Sub.refl _) (Qt.slice_ssn 8 (8 + nn) (e := 5) (sz := 1) (by kernel_rfl) rfl rfl rfl rfl (by omega) (by omega) (by omega)) ?_
        refine RW.q 30 rfl rfl (by kernel_rfl) (Sub.refl _) (Qt.move rfl) ?_
        refine RW.one 29 (by kernel_rfl) ?_
        refine RO.e rfl rfl (Ef.call (Wl.shut B [rB (.slice pa m ca) m al] s st.length (offA (offA pa ca k 1) (ca - k) 8 1) (8 + nn - 8) (ca - k - 8) (((al.drop k).take (8 + nn)).drop 8) (rrest.part 8 (8 + nn) (by omega) (by simp; omega) (by omega) (by omega) rfl) (by simp; omega) (by omega)) Tryz.func46 rfl rfl rfl ?_)
        rintro _ _ ⟨rfl, rfl⟩
        try simp only [List.cons_append, List.nil_append]
        refine ⟨Sub.any, ?_⟩
        refine RW.q 31 rfl rfl (by kernel_rfl) (Sub.refl _) (Qt.neq rfl rfl) ?_
        refine RW.q 32 rfl rfl (by kernel_rfl) (Sub.refl _) (Qt.pick rfl rfl) ?_
        refine RW.done (by rfl) ?_
        simp only [List.drop_succ_cons, List.drop_zero, List.drop_nil]
        refine LW.done ?_
        refine T.condP rfl (fun hsum => ?_) (fun hsum => ?_)
        ·
         subst hstl
         refine T.exit ?_
         refine T.seq ?_
         refine T.region ?_
         refine LW.q rfl (Qt.move rfl) ?_
         refine LW.q rfl (Qt.move rfl) ?_
         refine LW.q rfl (Qt.nilCheck rfl) ?_
         refine LW.q rfl (Qt.fieldAddr (off := 3) (by kernel_rfl) rfl) ?_
         first | refine LW.q rfl (Qt.load (by kernel_rfl) rfl rfl) ?_ | refine LW.q rfl (Qt.load (by kernel_rfl) rfl (map_at _ _ _ (by omega))) ?_ | refine LW.q rfl (Qt.load (by kernel_rfl) rfl (flat_cell0 _ _ _ (by intros; rfl) _ (by omega) (by rfl))) ?_ | refine LW.q rfl (Qt.load (by kernel_rfl) rfl (flat_cell _ _ _ (by intros; rfl) _ _ (by omega) (by rfl))) ?_ | refine LW.q rfl (Qt.load (by kernel_rfl) rfl (bytes_at _ _ (by omega))) ?_
         refine LW.q rfl (Qt.len (e := 5) (sz := 1) (by kernel_rfl) rfl) ?_
         refine LW.q rfl (Qt.nilCheck rfl) ?_
         refine LW.q rfl (Qt.fieldAddr (off := 5) (by kernel_rfl) rfl) ?_
         refine LW.e0 rfl (Ef.store1 (by kernel_rfl) rfl rfl rfl (by first | (simp; done) | (simp; omega)) ?_)
         try simp only [List.set_cons_zero, List.set_cons_succ]
         refine LW.done ?_
         refine T.seq ?_
         refine T.region ?_
         refine LW.q rfl (Qt.move rfl) ?_
         refine LW.q rfl (Qt.move rfl) ?_
         refine LW.e rfl (Ef.call (Wl.wipe B [rB (.slice pa m ca) m al] g48 b ⟨first, n, st, s, st.length⟩ p c hp hkc D pa m ca al rall hal hmca hm hD hs (by show st.length ≤ n * 256; omega) (Nat.le_refl _) hroom) Tryz.func47 rfl rfl rfl ?_)
         rintro _ _ ⟨rfl, rfl⟩
         try simp only [List.cons_append, List.nil_append]
         refine LW.done ?_
         refine T.seq ?_
         refine T.region ?_
         refine LW.q rfl (Qt.move rfl) ?_
         refine LW.q rfl (Qt.move rfl) ?_
         refine LW.q rfl (Qt.assign rfl) ?_
         refine LW.q rfl (Qt.assign rfl) ?_
         refine LW.q rfl (Qt.assign rfl) ?_
         refine LW.done ?_
         refine T.ret ?_
         exact ⟨.inl rfl, _, _, res [_, _, _] rfl ⟨rvT rfl, rvT rfl, rvT rfl, trivial⟩, OpenW.mk hm hk hst hnq hp hkc hsc (takeRec_no hnn (.inr (.inr (.inr (by intro h; apply hsum; rw [h]))))) rfl rfl, Sub.any⟩
        ·
         subst hstl
         obtain ⟨s', hs'⟩ : ∃ s', (get64 (((al.drop st.length).take 8).drop 4)).toUInt32 = s' := ⟨_, rfl⟩
         have ht := takeRec_yes (s := s) hnn (by omega) (by omega) (by omega) (by omega) (by rw [hs']; apply UInt32.toNat_inj.1; rw [hs'] at hsum; simp at hsum; omega)
         rw [hs'] at ht ⊢
         refine T.skip ?_
         refine T.seq ?_
         refine T.region ?_
         refine LW.q rfl (Qt.move rfl) ?_
         refine LW.q rfl (Qt.convI (by kernel_rfl) (by kernel_rfl) rfl (wr64 (by omega) (by omega))) ?_
         refine LW.q rfl (Qt.add rfl rfl (wr64 (by omega) (by omega))) ?_
         refine LW.q rfl (Qt.assign rfl) ?_
         refine LW.done ?_
         refine T.seq ?_
         refine T.drawBl 14 (some g48) (by kernel_rfl) (Nat.le_of_ble_eq_true rfl) (by kernel_rfl) ?_
         refine RW.q 0 rfl rfl (by kernel_rfl) Sub.any (Qt.move rfl) ?_
         refine RW.q 1 rfl rfl (by kernel_rfl) Sub.any (Qt.move rfl) ?_
         refine RW.q 2 rfl rfl (by kernel_rfl) Sub.any (Qt.move rfl) ?_
         refine RW.q 3 rfl rfl (by kernel_rfl) Sub.any (Qt.nilCheck rfl) ?_
         refine RW.q 4 rfl rfl (by kernel_rfl) Sub.any (Qt.fieldAddr (off := 3) (by kernel_rfl) rfl) ?_
         refine RW.q 6 rfl rfl (by kernel_rfl) Sub.any (Qt.move rfl) ?_
         refine RW.q 7 rfl rfl (by kernel_rfl) Sub.any (Qt.move rfl) ?_
         refine RW.q 8 rfl rfl (by kernel_rfl) Sub.any (Qt.slice_nsn (8 + nn) (e := 5) (sz := 1) (by kernel_rfl) rfl rfl rfl (by omega)) ?_
         refine RW.q 10 rfl rfl (by kernel_rfl) Sub.any (Qt.move rfl) ?_
         refine RW.one 5 (by kernel_rfl) ?_
         first | refine RO.eS rfl rfl (Ef.qt (Qt.load (by kernel_rfl) rfl rfl) ?_) | refine RO.eS rfl rfl (Ef.qt (Qt.load (by kernel_rfl) rfl (map_at _ _ _ (by omega))) ?_) | refine RO.eS rfl rfl (Ef.qt (Qt.load (by kernel_rfl) rfl (flat_cell0 _ _ _ (by intros; rfl) _ (by omega) (by rfl))) ?_) | refine RO.eS rfl rfl (Ef.qt (Qt.load (by kernel_rfl) rfl (flat_cell _ _ _ (by intros; rfl) _ _ (by omega) (by rfl))) ?_) | refine RO.eS rfl rfl (Ef.qt (Qt.load (by kernel_rfl) rfl (bytes_at _ _ (by omega))) ?_)
         refine ⟨Sub.any, ?_⟩
         refine RW.one 9 (by kernel_rfl) ?_
         refine RO.eS rfl rfl (Ef.append Cd.elemB rfl rfl (SrcOf.rd (m := 8 + nn) ((rrest.takeB (8 + nn) (ca - st.length) (by simp; omega)).mono (fun w ho => ho.map Sub.any)) (by kernel_rfl) (by simp; omega) one_bytesV) (by unfold maxLen; omega) (by omega) ?_)
         rintro p4 c4 hp4
         try simp only [List.cons_append, List.nil_append]
         rw [← bytesV_append]
         obtain ⟨st2, hst2, hlen2⟩ : ∃ st2, st ++ (al.drop st.length).take (8 + nn) = st2 ∧ st.length + (8 + nn) = st2.length := ⟨_, rfl, by simp; omega⟩
         rw [hst2, hlen2]
         rw [hlen2] at hp4
         refine ⟨Sub.any, ?_⟩
         refine RW.q 11 rfl rfl (by kernel_rfl) Sub.any (Qt.nilCheck rfl) ?_
         refine RW.q 12 rfl rfl (by kernel_rfl) Sub.any (Qt.fieldAddr (off := 3) (by kernel_rfl) rfl) ?_
         refine RW.one 13 (by kernel_rfl) ?_
         refine RO.eS0 rfl rfl (Ef.store1 (by kernel_rfl) rfl rfl rfl (by first | (simp; done) | (simp; omega)) ?_)
         try simp only [List.set_cons_zero, List.set_cons_succ]
         refine ⟨Sub.any, ?_⟩
         refine RW.done (by rfl) ?_
         simp only [List.drop_succ_cons, List.drop_zero, List.drop_nil]
         refine LW.q rfl (Qt.nilCheck rfl) ?_
         refine LW.q rfl (Qt.fieldAddr (off := 4) (by kernel_rfl) rfl) ?_
         refine LW.e0 rfl (Ef.store1 (by kernel_rfl) rfl rfl rfl (by first | (simp; done) | (simp; omega)) ?_)
         try simp only [List.set_cons_zero, List.set_cons_succ]
         refine LW.done ?_
         refine T.own (fun w ho => ?_)
         have hc4 : st2.length ≤ c4 := ho.cap_at (p := p4) (m := st2.length) (c := c4)
         clear ho
         refine T.drawBl 13 none (by kernel_rfl) (Nat.le_of_ble_eq_true rfl) (by kernel_rfl) ?_
         refine RW.q 0 rfl rfl (by kernel_rfl) Sub.any (Qt.move rfl) ?_
         refine RW.q 1 rfl rfl (by kernel_rfl) Sub.any (Qt.move rfl) ?_
         refine RW.q 2 rfl rfl (by kernel_rfl) Sub.any (Qt.nilCheck rfl) ?_
         refine RW.q 3 rfl rfl (by kernel_rfl) Sub.any (Qt.fieldAddr (off := 3) (by kernel_rfl) rfl) ?_
         first | refine RW.q 4 rfl rfl (by kernel_rfl) Sub.any (Qt.load (by kernel_rfl) rfl rfl) ?_ | refine RW.q 4 rfl rfl (by kernel_rfl) Sub.any (Qt.load (by kernel_rfl) rfl (map_at _ _ _ (by omega))) ?_ | refine RW.q 4 rfl rfl (by kernel_rfl) Sub.any (Qt.load (by kernel_rfl) rfl (flat_cell0 _ _ _ (by intros; rfl) _ (by omega) (by rfl))) ?_ | refine RW.q 4 rfl rfl (by kernel_rfl) Sub.any (Qt.load (by kernel_rfl) rfl (flat_cell _ _ _ (by intros; rfl) _ _ (by omega) (by rfl))) ?_ | refine RW.q 4 rfl rfl (by kernel_rfl) Sub.any (Qt.load (by kernel_rfl) rfl (bytes_at _ _ (by omega))) ?_
         refine RW.q 5 rfl rfl (by kernel_rfl) Sub.any (Qt.len (e := 5) (sz := 1) (by kernel_rfl) rfl) ?_
         refine RW.q 6 rfl rfl (by kernel_rfl) Sub.any (Qt.move rfl) ?_
         refine RW.q 7 rfl rfl (by kernel_rfl) Sub.any (Qt.move rfl) ?_
         refine RW.q 8 rfl rfl (by kernel_rfl) Sub.any (Qt.slice_ssn 8 (8 + nn) (e := 5) (sz := 1) (by kernel_rfl) rfl rfl rfl rfl (by omega) (by omega) (by omega)) ?_
         refine RW.one 9 (by kernel_rfl) ?_
         refine RO.eS rfl rfl (Ef.call (Bc.clone B [rB (.slice pa m ca) m al] (.slice (offA (offA pa ca st.length 1) (ca - st.length) 8 1) (8 + nn - 8) (ca - st.length - 8)) (((al.drop st.length).take (8 + nn)).drop 8) (8 + nn - 8) (by simp; omega) (rrest.part 8 (8 + nn) (by omega) (by simp; omega) (by omega) (by omega) rfl) (by omega)) Tryz.func42 rfl rfl rfl ?_)
         rintro _ _ ⟨p5, c5, rfl, hp5, rfl⟩
         try simp only [List.cons_append, List.nil_append]
         refine ⟨Sub.any, ?_⟩
         refine RW.q 10 rfl rfl (by kernel_rfl) Sub.any (Qt.build [(0, 1), (1, 1)] [.int .i64 0, .slice none 0 0] [_, _] [(0, _), (1, _)] (by kernel_rfl) (by unfold zeroB; kernel_rfl) rfl rfl) ?_
         refine RW.one 11 (by kernel_rfl) ?_
         refine RO.eS rfl rfl (Ef.one [_, _] (e := 124) (sz := 2) (by kernel_rfl) ⟨.agg #[.int .i64 0, .slice none 0 0], by kernel_rfl, rfl⟩ rfl rfl rfl (by omega) (by omega) ?_)
         intro g144
         refine ⟨Sub.any, ?_⟩
         refine RW.one 12 (by kernel_rfl) ?_
         refine RO.eS rfl rfl (Ef.append WRec.elem rfl rfl (SrcOf.blk (by kernel_rfl) rfl (by simp [Value.oneCell'])) (by unfold maxLen; omega) (by omega) ?_)
         rintro p6 c6 hp6
         try simp only [List.cons_append, List.nil_append]
         refine ⟨Sub.any, ?_⟩
         refine RW.done (by rfl) ?_
         simp only [List.drop_succ_cons, List.drop_zero, List.drop_nil]
         refine LW.q rfl (Qt.assign rfl) ?_
         refine LW.done ?_
         have hsc2 := hsc.next hk ht (q := p5) (c := c5)
         rw [hlen2] at hsc2
         refine ⟨_, ?_, _, ⟨_, st2.length, st2, s', p4, c4, _, p6, c6, nq + 1, ⟨by omega, by rw [← hlen2, List.take_add, ← hst, hst2], rfl, by simp [hnq], by omega, hp4, hc4, hsc2⟩, rfl, (updS rfl (updS rfl (updS rfl (updS rfl rfl)))), rfl⟩, Sub.wrecAdd R ⟨st2.length, p5, c5, ((al.drop st.length).take (8 + nn)).drop 8⟩ p6 (nq + 1) c6 (8 + nn - 8) (by simp; omega)⟩
         first | omega | (simp; omega)
end Go.Proofs.YtegohgaccmkigaaGreatDoor

/- Plain facts of the log: what its disk reads behind a flush and behind Open; records and their bytes. Conditions: none. -/
set_option linter.unusedSimpArgs false
set_option linter.unusedVariables false
namespace Go.Proofs.YtegohgaccmkigaaGreatDoor
open Go.RowKit

/-! the disk -/
theorem DD.rdN (D : DD) (hp : D.pend = []) (n : Nat) : D.read n = D.secs.getD n [] := by
  unfold DD.read; rw [hp]; exact DD.readK_zero D n
theorem DD.rdW (D : DD) (s : Nat) (d : List UInt8) (n : Nat) : (D.write s d).read n = if s = n then d else D.read n := by
  unfold DD.read DD.readK DD.write
  simp only [List.take_length, List.foldl_append, List.foldl_cons, List.foldl_nil]
theorem layW_256 (S : List (List UInt8)) (n : Nat) (d : List UInt8) (hd : d.length = 256) (hl : (S.getD n []).length = 256) : layW S n 256 d = S.set n d := by
  unfold layW
  rw [List.take_of_length_le (by omega), List.drop_of_length_le (by omega), List.append_nil]
theorem DD.rdS_lays {D : DD} (h : D.Ok) (n : Nat) (hn : n < D.secs.length) : ∀ k, k ≤ D.pend.length → (D.lays (fun _ => some 256) k).getD n [] = D.readK n k
  | 0, _ => by rw [DD.readK_zero]; rfl
  | k + 1, hk => by
    have hlt : k < D.pend.length := by omega
    obtain ⟨hS, hSl⟩ := DD.lays_ok h (fun _ => some 256) (by simp) k
    have ih := DD.rdS_lays h n hn k (by omega)
    have hd := h.data _ (List.getElem_mem hlt)
    have ha := h.at_ _ (List.getElem_mem hlt)
    rw [DD.lays_some D _ k 256 hlt rfl, DD.readK_succ D n k hlt]
    rw [layW_256 _ _ _ hd (by rw [List.getD_eq_getElem?_getD, List.getElem?_eq_getElem (by omega)]; exact hS _ (List.getElem_mem _))]
    by_cases h1 : D.pend[k].1 = n
    · rw [if_pos h1, ← h1, List.getD_eq_getElem?_getD, List.getElem?_set_self (by omega)]
      rfl
    · rw [if_neg h1, List.getD_eq_getElem?_getD, List.getElem?_set_ne h1, ← List.getD_eq_getElem?_getD, ih]
theorem DD.rdS {D : DD} (h : D.Ok) (n : Nat) (hn : n < D.secs.length) : D.sync.read n = D.read n := by
  rw [DD.rdN _ rfl]
  exact DD.rdS_lays h n hn _ (Nat.le_refl _)
theorem DD.Ok.rd {D : DD} (h : D.Ok) (n : Nat) (hn : n < D.secs.length) : (D.read n).length = 256 := h.readK n hn _ (Nat.le_refl _)
theorem DD.Ok.lys {D : DD} (h : D.Ok) (f : Nat → Option Nat) (hf : ∀ i k, f i = some k → k ≤ 256) (k : Nat) : DD.Ok ⟨D.lays f k, []⟩ := by
  obtain ⟨h1, h2⟩ := DD.lays_ok h f hf k
  exact ⟨by simp only; rw [h2]; exact h.pos, by simp only; rw [h2]; exact h.max, h1, by simp, by simp⟩
theorem DD.Ok.sy {D : DD} (h : D.Ok) : D.sync.Ok := h.lys _ (by simp) _
theorem DD.sync_len {D : DD} (h : D.Ok) : D.sync.secs.length = D.secs.length := (DD.lays_ok h _ (by simp) _).2
theorem DD.Ok.cr {D : DD} (h : D.Ok) (keep : List Bool) (t a : Int) : (D.crash keep t a).Ok := h.lys _ (amount_le _ _ _) _
theorem DD.sync_nil {D : DD} (hp : D.pend = []) : D.sync = D := by
  unfold DD.sync; rw [hp]; cases D; simp_all [DD.lays]
theorem DD.Ok.wr2 {D : DD} (h : D.Ok) (n : Nat) (d : List UInt8) (hn : n < D.secs.length) (hd : d.length = 256) : (D.write n d).Ok :=
  ⟨h.pos, h.max, h.secs, by
    intro p hp
    simp only [DD.write, List.mem_append, List.mem_singleton] at hp
    rcases hp with hp | rfl
    · exact h.at_ p hp
    · exact hn, by
    intro p hp
    simp only [DD.write, List.mem_append, List.mem_singleton] at hp
    rcases hp with hp | rfl
    · exact h.data p hp
    · exact hd⟩
theorem DD.new_ok (n : Nat) (h1 : 1 ≤ n) (h2 : n ≤ 4096) : DD.Ok ⟨List.replicate n zs, []⟩ := ⟨by simp; omega, by simp; omega, by
  intro s hs; rw [List.eq_of_mem_replicate hs]; exact length_zs, by simp, by simp⟩
theorem DD.new_read {n i : Nat} (hi : i < n) : DD.read ⟨List.replicate n zs, []⟩ i = List.replicate 256 0 := by
  rw [DD.rdN _ rfl, List.getD_eq_getElem?_getD, List.getElem?_replicate, if_pos hi]
  rfl

/-- The sectors of a disk hold a text, noughts behind it. -/
def Secs (D : DD) (first count : Nat) (st : List UInt8) : Prop := ∀ j, j < count → D.read (first + j) = secW st j
theorem Secs.new {n first count : Nat} (h : first + count ≤ n) : Secs ⟨List.replicate n zs, []⟩ first count [] := fun j hj => by
  rw [DD.new_read (by omega), secW_none (by simp)]
theorem Secs.sync {D : DD} {first count : Nat} {st : List UInt8} (h : Secs D first count st) (ho : D.Ok) (hl : first + count ≤ D.secs.length) : Secs D.sync first count st := fun j hj => by
  rw [DD.rdS ho _ (by omega)]; exact h j hj
theorem secW_take {st : List UInt8} {j k : Nat} (h : (j + 1) * 256 ≤ k) : secW (st.take k) j = secW st j := by
  have e : ((st.take k).drop (j * 256)).take 256 = (st.drop (j * 256)).take 256 := by
    rw [List.drop_take, List.take_take, Nat.min_eq_left (by omega)]
  unfold secW
  rw [e]
theorem secW_app {st z : List UInt8} {j c : Nat} (hl : st.length ≤ c * 256) (hj : j < c) (hz : z = List.replicate (c * 256 - st.length) 0) : secW st j = ((st ++ z).drop (j * 256)).take 256 := by
  subst hz
  unfold secW
  rw [List.drop_append, List.take_append, List.drop_replicate, List.take_replicate]
  congr 2
  simp only [List.length_take, List.length_drop]
  omega
theorem all_text {D : DD} {first count : Nat} {st : List UInt8} (h : Secs D first count st) (hl : st.length ≤ count * 256) : allD D first count = st ++ List.replicate (count * 256 - st.length) 0 := by
  have key : ∀ n, n ≤ count → allD D first n = (st ++ List.replicate (count * 256 - st.length) 0).take (n * 256) := by
    intro n
    induction n with
    | zero => intro _; simp [allD]
    | succ n ih =>
      intro hn
      rw [← allD_snoc, ih (by omega), h n (by omega), secW_app hl (by omega) rfl, show (n + 1) * 256 = n * 256 + 256 by omega, List.take_add]
  rw [key count (Nat.le_refl _), List.take_of_length_le]
  simp; omega
theorem allD_length {D : DD} (h : D.Ok) {first : Nat} : ∀ n, first + n ≤ D.secs.length → (allD D first n).length = n * 256
  | 0, _ => rfl
  | n + 1, hn => by rw [← allD_snoc, List.length_append, allD_length h n (by omega), h.rd _ (by omega)]; omega
set_option maxRecDepth 100000 in
theorem allD_sec {D : DD} (h : D.Ok) {first j : Nat} : ∀ n, first + n ≤ D.secs.length → j < n → D.read (first + j) = ((allD D first n).drop (j * 256)).take 256
  | 0, _, hj => by omega
  | n + 1, hn, hj => by
    have hl := allD_length h n (by omega : first + n ≤ D.secs.length)
    rw [← allD_snoc]
    by_cases e : j = n
    · subst e
      rw [List.drop_left' hl, List.take_of_length_le (by rw [h.rd _ (by omega)]; omega)]
    · have : (j + 1) * 256 ≤ n * 256 := by omega
      rw [List.drop_append_of_le_length (by omega), List.take_append_of_le_length (by rw [List.length_drop]; omega)]
      exact allD_sec h n (by omega) (by omega)

/-! lay and wipe -/
theorem lays_ok {W : Wl} : ∀ {k n : Nat} {D : DD}, D.Ok → W.first + (n + k) ≤ D.secs.length → (laysW W D n k).Ok ∧ (laysW W D n k).secs.length = D.secs.length
  | 0, _, _, h, _ => ⟨h, rfl⟩
  | k + 1, n, D, h, hl => by
    have := lays_ok (W := W) (k := k) (n := n + 1) (h.wr2 (W.first + n) (secW W.st n) (by omega) (length_secW _ _)) (by simp only [DD.write]; omega)
    exact this
theorem lays_out {W : Wl} {x : Nat} : ∀ {k n : Nat} {D : DD}, (x < W.first + n ∨ W.first + (n + k) ≤ x) → (laysW W D n k).read x = D.read x
  | 0, _, _, _ => rfl
  | k + 1, n, D, h => by
    rw [laysW, lays_out (by omega), DD.rdW, if_neg (by omega)]
theorem lays_at {W : Wl} {j : Nat} : ∀ {k n : Nat} {D : DD}, n ≤ j → j < n + k → (laysW W D n k).read (W.first + j) = secW W.st j
  | 0, _, _, _, _ => by omega
  | k + 1, n, D, h1, h2 => by
    rw [laysW]
    by_cases e : j = n
    · subst e
      rw [lays_out (by omega), DD.rdW, if_pos rfl]
    · exact lays_at (by omega) (by omega)
theorem wipe_ok {W : Wl} {al : List UInt8} : ∀ {k n : Nat} {D : DD}, D.Ok → W.first + (n + k) ≤ D.secs.length → (wipeD W al D n k).Ok ∧ (wipeD W al D n k).secs.length = D.secs.length
  | 0, _, _, h, _ => ⟨h, rfl⟩
  | k + 1, n, D, h, hl => by
    rw [wipeD]
    split
    · exact wipe_ok h (by omega)
    · have := wipe_ok (W := W) (al := al) (k := k) (n := n + 1) (h.wr2 (W.first + n) (secW W.st n) (by omega) (length_secW _ _)) (by simp only [DD.write]; omega)
      exact this
theorem wipe_out {W : Wl} {al : List UInt8} {x : Nat} : ∀ {k n : Nat} {D : DD}, (x < W.first + n ∨ W.first + (n + k) ≤ x) → (wipeD W al D n k).read x = D.read x
  | 0, _, _, _ => rfl
  | k + 1, n, D, h => by
    rw [wipeD, wipe_out (by omega)]
    split
    · rfl
    · rw [DD.rdW, if_neg (by omega)]
theorem wipe_at {W : Wl} {al : List UInt8} {j : Nat} : ∀ {k n : Nat} {D : DD}, n ≤ j → j < n + k → (wipeD W al D n k).read (W.first + j) = if ((al.take ((j + 1) * 256)).drop (max (j * 256) W.dur)).all (· == 0) then D.read (W.first + j) else secW W.st j
  | 0, _, _, _, _ => by omega
  | k + 1, n, D, h1, h2 => by
    rw [wipeD]
    by_cases e : j = n
    · subst e
      rw [wipe_out (by omega)]
      split
      · rfl
      · rw [DD.rdW, if_pos rfl]
    · rw [wipe_at (by omega) (by omega)]
      split
      · split
        · rfl
        · rw [DD.rdW, if_neg (by omega)]
      · rfl
theorem wipe_none {W : Wl} {al : List UInt8} : ∀ {k n : Nat} {D : DD}, (∀ j, n ≤ j → j < n + k → ((al.take ((j + 1) * 256)).drop (max (j * 256) W.dur)).all (· == 0) = true) → wipeD W al D n k = D
  | 0, _, _, _ => rfl
  | k + 1, n, D, h => by
    rw [wipeD, if_pos (h n (by omega) (by omega)), wipe_none (fun j h1 h2 => h j (by omega) (by omega))]
theorem all_zero {l : List UInt8} (h : l.all (· == 0) = true) : l = List.replicate l.length 0 := by
  rw [List.eq_replicate_iff]
  exact ⟨rfl, fun b hb => by simpa using List.all_eq_true.1 h b hb⟩
set_option maxRecDepth 100000 in
/-- Behind Open the sectors hold the text, noughts behind it. -/
theorem Secs.wiped {D : DD} {first count k : Nat} {s : UInt32} (ho : D.Ok) (hl : first + count ≤ D.secs.length) (hk : k ≤ count * 256) :
    Secs (wipeD ⟨first, count, (allD D first count).take k, s, k⟩ (allD D first count) D (k / 256) (count - k / 256)) first count ((allD D first count).take k) := by
  obtain ⟨al, hal⟩ : ∃ al, allD D first count = al := ⟨_, rfl⟩
  have hlen : al.length = count * 256 := by rw [← hal]; exact allD_length ho count hl
  have hsec : ∀ j, j < count → D.read (first + j) = (al.drop (j * 256)).take 256 := fun j hj => by rw [← hal]; exact allD_sec ho count hl hj
  rw [hal]
  intro j hj
  have hj2 : (j + 1) * 256 ≤ count * 256 := by omega
  by_cases h : j < k / 256
  · have hk2 : (j + 1) * 256 ≤ k := by omega
    rw [wipe_out (W := ⟨first, count, al.take k, s, k⟩) (.inl (by show first + j < first + k / 256; omega)), hsec j hj, secW_take hk2]
    unfold secW
    have e : ((al.drop (j * 256)).take 256).length = 256 := by simp; omega
    rw [e]; simp
  · rw [wipe_at (W := ⟨first, count, al.take k, s, k⟩) (by omega) (by omega)]
    split
    · next hz =>
      have hz2 := all_zero hz
      rw [hsec j hj]
      have hk3 : k < (j + 1) * 256 := by omega
      have hml : max (j * 256) k ≤ (j + 1) * 256 := by omega
      obtain ⟨lo, hlo⟩ : ∃ lo, max (j * 256) k = lo := ⟨_, rfl⟩
      simp only at hz2
      rw [hlo] at hz2 hml
      have e1 : (al.drop (j * 256)).take 256 = (al.take ((j + 1) * 256)).drop (j * 256) := by
        rw [List.drop_take]; congr 1; omega
      have e2 : ((al.take ((j + 1) * 256)).drop (j * 256)) = ((al.take k).drop (j * 256)) ++ ((al.take ((j + 1) * 256)).drop lo) := by
        by_cases hjk : j * 256 ≤ k
        · obtain rfl : k = lo := by omega
          have : al.take ((j + 1) * 256) = al.take k ++ (al.take ((j + 1) * 256)).drop k := by
            have := List.take_append_drop k (al.take ((j + 1) * 256))
            rw [List.take_take, Nat.min_eq_left (by omega)] at this
            exact this.symm
          conv => lhs; rw [this]
          rw [List.drop_append_of_le_length (by simp; omega)]
        · obtain rfl : j * 256 = lo := by omega
          rw [List.drop_of_length_le (l := al.take k) (by simp; omega), List.nil_append]
      rw [e1, e2, hz2]
      unfold secW
      rw [List.take_of_length_le (l := ((al.take k).drop (j * 256))) (by simp; omega)]
      congr 2
      simp only [List.length_drop, List.length_take]
      omega
    · rfl
/-- A disk that holds a text and noughts behind it isn't written. -/
theorem wipe_clean {D : DD} {first count : Nat} {s : UInt32} {st : List UInt8} (hl : st.length ≤ count * 256) :
    wipeD ⟨first, count, st, s, st.length⟩ (st ++ List.replicate (count * 256 - st.length) 0) D (st.length / 256) (count - st.length / 256) = D := by
  refine wipe_none fun j h1 h2 => ?_
  rw [List.all_eq_true]
  intro x hx
  have h3 : x ∈ (st ++ List.replicate (count * 256 - st.length) (0 : UInt8)).drop st.length := by
    have h4 := (List.drop_sublist (max (j * 256) st.length - st.length) ((st ++ List.replicate (count * 256 - st.length) (0 : UInt8)).drop st.length)).subset
    rw [List.drop_drop, show st.length + (max (j * 256) st.length - st.length) = max (j * 256) st.length by omega] at h4
    apply h4
    rw [List.drop_take] at hx
    exact List.mem_of_mem_take hx
  rw [List.drop_left' rfl] at h3
  simp [List.eq_of_mem_replicate h3]
set_option maxRecDepth 100000 in
/-- Behind a flush the sectors hold all of the text. -/
theorem Secs.flushed {D : DD} {W : Wl} (h : Secs D W.first W.count (W.st.take W.dur)) (hd : W.dur ≤ W.st.length) (hl : W.st.length ≤ W.count * 256) : Secs (laysW W D (W.dur / 256) (flushN W)) W.first W.count W.st := fun j hj => by
  unfold flushN
  by_cases h1 : j < W.dur / 256
  · rw [lays_out (by omega), h j hj]
    exact secW_take (by omega)
  · by_cases h2 : j < (W.st.length + 255) / 256
    · exact lays_at (by omega) (by omega)
    · have h3 : W.st.length ≤ j * 256 := by omega
      rw [lays_out (by omega), h j hj, secW_none h3, secW_none (by simp; omega)]
end Go.Proofs.YtegohgaccmkigaaGreatDoor

/- Plain facts of the log: records and their bytes. Conditions: none. -/
set_option linter.unusedSimpArgs false
set_option linter.unusedVariables false
namespace Go.Proofs.YtegohgaccmkigaaGreatDoor
open Go.RowKit

/-- A record that a log may have. -/
def OkD (d : List UInt8) : Prop := d.length ≠ 0 ∧ d.length ≤ 1024
instance (d : List UInt8) : Decidable (OkD d) := inferInstanceAs (Decidable (_ ∧ _))
/-- A record's bytes, by the sum ahead of it and where it stands. -/
def recB (s : UInt32) (k : Nat) (d : List UInt8) : List UInt8 := be (UInt64.ofInt d.length) 4 ++ be (sealW s k d).toUInt64 4 ++ d
theorem length_recB (s : UInt32) (k : Nat) (d : List UInt8) : (recB s k d).length = 8 + d.length := by simp [recB, length_be]; omega
/-- The last record's sum; the records' bytes; each one's end. -/
def logS : UInt32 → Nat → List (List UInt8) → UInt32
  | s, _, [] => s
  | s, k, d :: ds => logS (sealW s k d) (k + (8 + d.length)) ds
def logB : UInt32 → Nat → List (List UInt8) → List UInt8
  | _, _, [] => []
  | s, k, d :: ds => recB s k d ++ logB (sealW s k d) (k + (8 + d.length)) ds
def logR : Nat → List (List UInt8) → List (Nat × List UInt8)
  | _, [] => []
  | k, d :: ds => (k + (8 + d.length), d) :: logR (k + (8 + d.length)) ds
theorem length_logR : ∀ (k : Nat) (ds : List (List UInt8)), (logR k ds).length = ds.length
  | _, [] => rfl
  | k, d :: ds => by simp [logR, length_logR _ ds]
theorem logR_snd : ∀ (k : Nat) (ds : List (List UInt8)), (logR k ds).map Prod.snd = ds
  | _, [] => rfl
  | k, d :: ds => by simp [logR, logR_snd _ ds]
theorem length_logB_le : ∀ (s : UInt32) (k : Nat) (ds : List (List UInt8)), ds.length ≤ (logB s k ds).length
  | _, _, [] => Nat.le_refl _
  | s, k, d :: ds => by
    have := length_logB_le (sealW s k d) (k + (8 + d.length)) ds
    simp [logB, length_recB]; omega
theorem be_u32 (x : UInt32) : x.toUInt64.toNat < 256 ^ 4 := by rw [UInt32.toNat_toUInt64]; exact x.toNat_lt
theorem u32_back (x : UInt32) : (get64 (be x.toUInt64 4)).toUInt32 = x := by
  rw [get64_be _ (by omega) (be_u32 x)]
  apply UInt32.toNat_inj.1
  have := x.toNat_lt
  rw [UInt64.toNat_toUInt32, UInt32.toNat_toUInt64]
  omega
theorem u32_fwd {b : List UInt8} (h : b.length = 4) : be ((get64 b).toUInt32).toUInt64 4 = b := by
  have h1 := be_get64 (l := b) (by omega)
  rw [h] at h1
  have h2 : (get64 b).toNat < 256 ^ 4 := by rw [get64_nat _ (by omega)]; have := natOf_lt b; rwa [h] at this
  have : ((get64 b).toUInt32).toUInt64 = get64 b := by
    apply UInt64.toNat_inj.1
    rw [UInt32.toNat_toUInt64, UInt64.toNat_toUInt32]
    omega
  rw [this, h1]
theorem len_u64 (n : Nat) (h : n ≤ 1024) : (UInt64.ofInt n).toNat = n := by
  have := wru64_i64 (n : Int)
  rw [wru64 (by omega) (by omega)] at this
  omega

/-- A record that stands there is taken. -/
theorem takeRec_at {al rest : List UInt8} {k : Nat} {s : UInt32} {d : List UInt8} (h : al.drop k = recB s k d ++ rest) (hd : OkD d) : takeRec al k s = some (d.length, sealW s k d) ∧ ((al.drop k).take (8 + d.length)).drop 8 = d := by
  obtain ⟨h0, h1⟩ := hd
  have e1 : (al.drop k).take 4 = be (UInt64.ofInt d.length) 4 := by rw [h, recB, List.append_assoc, List.append_assoc, List.take_left' (length_be _ _)]
  have e2 : ((al.drop k).take 8).drop 4 = be (sealW s k d).toUInt64 4 := by
    rw [h, recB, List.append_assoc, List.take_left' (l₁ := be (UInt64.ofInt d.length) 4 ++ be (sealW s k d).toUInt64 4) (by simp [length_be]), List.drop_left' (length_be _ _)]
  have e3 : ((al.drop k).take (8 + d.length)).drop 8 = d := by
    rw [h, List.take_left' (by rw [length_recB]), recB, List.drop_left' (by simp [length_be])]
  have hl : (al.drop k).length = 8 + d.length + rest.length := by rw [h, List.length_append, length_recB]
  have e4 : (get64 ((al.drop k).take 4)).toNat = d.length := by
    rw [e1, get64_be _ (by omega) (by rw [len_u64 _ h1]; omega), len_u64 _ h1]
  refine ⟨?_, e3⟩
  rw [List.length_drop] at hl
  rw [takeRec_yes e4 (by omega) h0 h1 (by omega) (by rw [e3, e2, u32_back]), e2, u32_back]
theorem scan_at : ∀ (ds : List (List UInt8)) (k : Nat) (s : UInt32) (f : Nat) (al rest : List UInt8), al.drop k = logB s k ds ++ rest → (∀ d ∈ ds, OkD d) →
    scanW al (f + ds.length) k s = ((scanW al f (k + (logB s k ds).length) (logS s k ds)).1, (scanW al f (k + (logB s k ds).length) (logS s k ds)).2.1, logR k ds ++ (scanW al f (k + (logB s k ds).length) (logS s k ds)).2.2)
  | [], k, s, f, al, rest, _, _ => by simp [logB, logS, logR]
  | d :: ds, k, s, f, al, rest, h, hok => by
    rw [logB, List.append_assoc] at h
    obtain ⟨e1, e2⟩ := takeRec_at h (hok d (by simp))
    have h' : al.drop (k + (8 + d.length)) = logB (sealW s k d) (k + (8 + d.length)) ds ++ rest := by
      rw [← List.drop_drop, h, List.drop_left' (length_recB _ _ _)]
    have ih := scan_at ds (k + (8 + d.length)) (sealW s k d) f al rest h' (fun x hx => hok x (by simp [hx]))
    rw [List.length_cons, ← Nat.add_assoc, scanW, e1]
    simp only [e2]
    rw [ih]
    simp only [logB, logS, logR, List.length_append, length_recB, List.cons_append, Nat.add_assoc]
theorem take_zeros {al : List UInt8} {k n : Nat} {s : UInt32} (h : al.drop k = List.replicate n 0) : takeRec al k s = none := by
  have hl : al.length - k = n := by rw [← List.length_drop, h, List.length_replicate]
  by_cases h8 : al.length - k < 8
  · exact takeRec_short h8
  · refine takeRec_no rfl (.inl ?_)
    rw [h, List.take_replicate, Nat.min_eq_left (by omega)]
    rfl
theorem scan_none {al : List UInt8} {k : Nat} {s : UInt32} (h : takeRec al k s = none) : ∀ f, scanW al f k s = (k, s, [])
  | 0 => rfl
  | f + 1 => by rw [scanW, h]
/-- The records of a text with noughts behind it are its own. -/
theorem scan_text (ds : List (List UInt8)) (n f : Nat) (hf : ds.length ≤ f) (hok : ∀ d ∈ ds, OkD d) : scanW (logB 0 0 ds ++ List.replicate n 0) f 0 0 = ((logB 0 0 ds).length, logS 0 0 ds, logR 0 ds) := by
  have := scan_at ds 0 0 (f - ds.length) (logB 0 0 ds ++ List.replicate n 0) (List.replicate n 0) rfl hok
  have h2 := scan_none (al := logB 0 0 ds ++ List.replicate n 0) (k := 0 + (logB 0 0 ds).length) (s := logS 0 0 ds) (take_zeros (n := n) (by rw [Nat.zero_add, List.drop_left' rfl])) (f - ds.length)
  rw [Nat.sub_add_cancel hf, h2] at this
  rw [this]
  simp
/-- What a scan finds are records. -/
theorem take_back {al : List UInt8} {k nn : Nat} {s s' : UInt32} (h : takeRec al k s = some (nn, s')) : ∃ d, d = ((al.drop k).take (8 + nn)).drop 8 ∧ d.length = nn ∧ OkD d ∧ s' = sealW s k d ∧ (al.drop k).take (8 + nn) = recB s k d ∧ k + (8 + nn) ≤ al.length := by
  unfold takeRec at h
  split at h
  · cases h
  · next h8 =>
    split at h
    · cases h
    · next hn =>
      injection h with h
      injection h with e1 e2
      rw [e1, e2] at hn
      have hn1 : nn ≠ 0 ∧ nn ≤ 1024 ∧ nn ≤ (al.drop k).length - 8 := by omega
      have hn2 : sealW s k (((al.drop k).take (8 + nn)).drop 8) = s' := by
        apply Decidable.not_not.1
        intro hne
        exact hn (.inr (.inr (.inr hne)))
      have hl : (((al.drop k).take (8 + nn)).drop 8).length = nn := by simp at hn1 h8 ⊢; omega
      refine ⟨_, rfl, hl, ⟨by omega, by omega⟩, hn2.symm, ?_, by simp at hn1 h8; omega⟩
      have f1 : be (UInt64.ofInt nn) 4 = (al.drop k).take 4 := by
        have h4 : ((al.drop k).take 4).length = 4 := by simp at h8 ⊢; omega
        have := be_get64 (l := (al.drop k).take 4) (by omega)
        rw [h4] at this
        rw [← this]
        congr 1
        apply UInt64.toNat_inj.1
        rw [len_u64 _ (by omega), e1]
      have f2 : be s'.toUInt64 4 = ((al.drop k).take 8).drop 4 := by
        rw [← e2]
        exact u32_fwd (by simp at h8 ⊢; omega)
      unfold recB
      rw [hl, hn2, f1, f2]
      have g1 : ((al.drop k).take 8).drop 4 = ((al.drop k).drop 4).take 4 := by rw [List.drop_take]
      have g2 : ((al.drop k).take (8 + nn)).drop 8 = ((al.drop k).drop 8).take nn := by rw [List.drop_take]; congr 1; omega
      rw [g1, g2, List.append_assoc, show 8 + nn = 4 + (4 + nn) by omega, List.take_add, List.take_add, List.drop_drop, List.drop_drop, List.drop_drop]
theorem scan_back : ∀ (f k : Nat) (s : UInt32) (al : List UInt8), k ≤ al.length → ∃ ds, (∀ d ∈ ds, OkD d) ∧ scanW al f k s = (k + (logB s k ds).length, logS s k ds, logR k ds) ∧ (al.drop k).take (logB s k ds).length = logB s k ds ∧ k + (logB s k ds).length ≤ al.length
  | 0, k, s, al, hk => ⟨[], by simp, rfl, rfl, hk⟩
  | f + 1, k, s, al, hk => by
    rw [scanW]
    cases ht : takeRec al k s with
    | none => exact ⟨[], by simp, rfl, rfl, hk⟩
    | some p =>
      obtain ⟨nn, s'⟩ := p
      obtain ⟨d, e0, e1, e2, e3, e4, e5⟩ := take_back ht
      subst e1
      subst e3
      obtain ⟨ds, h1, h2, h3, h4⟩ := scan_back f (k + (8 + d.length)) (sealW s k d) al e5
      refine ⟨d :: ds, ?_, ?_, ?_, ?_⟩
      · intro x hx
        rcases List.mem_cons.1 hx with rfl | hx
        · exact e2
        · exact h1 x hx
      · simp only [h2, ← e0, logB, logS, logR, List.length_append, length_recB, Nat.add_assoc]
      · rw [logB, List.length_append, length_recB, List.take_add, e4, List.drop_drop, h3]
      · rw [logB, List.length_append, length_recB]; omega
/-- The log that has these records. -/
def mkW (first count : Nat) (ds : List (List UInt8)) (dur : Nat) : Wl := ⟨first, count, logB 0 0 ds, logS 0 0 ds, dur⟩
end Go.Proofs.YtegohgaccmkigaaGreatDoor

/- The package wal: Open, Append, Flush, Force over closed logs. Conditions: sizes; that what is handed in can be read. -/
set_option linter.unusedSimpArgs false
set_option linter.unusedVariables false
namespace Go.Proofs.YtegohgaccmkigaaGreatDoor
open Go.RowKit

theorem Own.dskOk {B : Base} {w : World} {b : Nat} {D : DD} {l : List Assn} (H : Own B w (dskA b D :: l)) : D.Ok := by
  obtain ⟨_, _, _, _, _, h⟩ := H.disk
  exact h.ok
theorem Fn.diskOk {P : Program} {B : Base} {f : FuncId} {args : Array Value} {b : Nat} {D : DD} {S : List Assn} {R : Value → List Assn → Prop} (h : D.Ok → Fn P B f args (dskA b D :: S) R) : Fn P B f args (dskA b D :: S) R := ⟨fun w F ho => (h ho.dskOk).run w F ho⟩
section
variable {P : Program} {B : Base} {n : Nat} {l r : List Assn} {f : Fr} {Φ : Post} {c : Code}
end
theorem Fn.openWl {P : Program} {B : Base} {f : FuncId} {args : Array Value} {g b : Nat} {W : Wl} {S : List Assn} {R : Value → List Assn → Prop} (h : ∀ p c, (0 < W.st.length → ∃ g, p = some ⟨g, 0, none⟩) → W.st.length ≤ c → Fn P B f args (wlB g b W p c :: rB (.slice p W.st.length c) W.st.length W.st :: S) R) : Fn P B f args (wlA g b W :: S) R := ⟨fun w F ho => by
  obtain ⟨p, c, e⟩ := Own.openWl (l := S ++ F) ho
  exact (h p c (e.tl.slice_at (p := p) (m := W.st.length) (c := c)).2.1 (e.tl.cap_at (p := p) (m := W.st.length) (c := c))).run w F e⟩
theorem sub_wlA {g b : Nat} {W : Wl} {p : Option Addr} {c : Nat} {S : List Assn} : Sub (wlB g b W p c :: rB (.slice p W.st.length c) W.st.length W.st :: S) (wlA g b W :: S) := fun h H => by
  obtain ⟨h1, h2, d, a1, a2, k1, k2⟩ := Has.split (l := [_, _]) H
  exact ⟨h1, h2, d, a1, a2, ⟨p, c, k1⟩, k2⟩

theorem PartsV.mono {B : Base} {S S' : List Assn} {v : Value} {bs : List (List UInt8)} (h : PartsV B S v bs) (hm : ∀ w, Own B w S' → Own B w S) : PartsV B S' v bs := by
  obtain ⟨vs, h1, h2, h3⟩ := h
  exact ⟨vs, h1.mono hm, h2, fun i a b => (h3 i a b).mono hm⟩
theorem addW_cases (W : Wl) (d : List UInt8) : ((d.length = 0 ∧ addW W d = (W, 0, 5)) ∨ (d.length ≠ 0 ∧ 1024 < d.length ∧ addW W d = (W, 0, 2)) ∨ (d.length ≠ 0 ∧ d.length ≤ 1024 ∧ W.count * 256 < W.st.length + 8 + d.length ∧ addW W d = (W, 0, 3))) ∨ (OkD d ∧ W.st.length + 8 + d.length ≤ W.count * 256 ∧ (addW W d).2.2 = 0) := by
  by_cases h0 : d.length = 0
  · exact .inl (.inl ⟨h0, by unfold addW; rw [if_pos h0]⟩)
  · by_cases h1 : 1024 < d.length
    · exact .inl (.inr (.inl ⟨h0, h1, by unfold addW; rw [if_neg h0, if_pos h1]⟩))
    · by_cases h2 : W.count * 256 < W.st.length + 8 + d.length
      · exact .inl (.inr (.inr ⟨h0, by omega, h2, by unfold addW; rw [if_neg h0, if_neg h1, if_pos h2]⟩))
      · exact .inr ⟨⟨h0, by omega⟩, by omega, by unfold addW; rw [if_neg h0, if_neg h1, if_neg h2]⟩

theorem Wl.add (B : Base) (S : List Assn) (g b : Nat) (W : Wl) (a : Option Addr) (c : Nat) (bs : List (List UInt8)) (n : Nat) (hbn : bs.length = n) (hv : PartsV B S (.slice a bs.length c) bs) (hc : bs.length ≤ c) (hn : bs.length < 2 ^ 32) (d : List UInt8) (hdd : bs.flatten = d) (hN2 : d.length ≤ 2 ^ 40) (hcnt : W.count ≤ 4096) (hst : W.st.length ≤ W.count * 256) :
    Fn Tryz.prog B 36 #[.pointer (some ⟨g, 0, none⟩), .slice a n c] (wlA g b W :: S) (fun u l => u = .tuple #[.int .i64 (addW W d).2.1, .int .i64 (addW W d).2.2] ∧ l = wlA g b (addW W d).1 :: S) := by
  subst hdd
  subst hbn
  refine Fn.openWl fun p cc hp hcc => ?_
  rcases addW_cases W bs.flatten with h | ⟨h1, h2, h3⟩
  · have key : ∀ code, ((bs.flatten.length = 0 ∧ code = 5) ∨ (bs.flatten.length ≠ 0 ∧ 1024 < bs.flatten.length ∧ code = 2) ∨ (bs.flatten.length ≠ 0 ∧ bs.flatten.length ≤ 1024 ∧ W.count * 256 < W.st.length + 8 + bs.flatten.length ∧ code = 3)) → addW W bs.flatten = (W, 0, code) →
        Fn Tryz.prog B 36 #[.pointer (some ⟨g, 0, none⟩), .slice a bs.length c] (wlB g b W p cc :: rB (.slice p W.st.length cc) W.st.length W.st :: S) (fun u l => u = .tuple #[.int .i64 (addW W bs.flatten).2.1, .int .i64 (addW W bs.flatten).2.2] ∧ l = wlA g b (addW W bs.flatten).1 :: S) := by
      intro code hcode e
      rw [e]
      have h0 := Wl.append_no B (rB (.slice p W.st.length cc) W.st.length W.st :: S) g b W p cc a c bs (PartsV.mono hv (fun w ho => ho.tl)) hc hn hN2 hcnt hst code hcode
      exact h0.sub fun v l ⟨e1, e2⟩ => ⟨_, e2 ▸ sub_wlA, e1, rfl⟩
    rcases h with ⟨h0, e⟩ | ⟨h0, h1, e⟩ | ⟨h0, h1, h2, e⟩
    · exact key 5 (.inl ⟨h0, rfl⟩) e
    · exact key 2 (.inr (.inl ⟨h0, h1, rfl⟩)) e
    · exact key 3 (.inr (.inr ⟨h0, h1, h2, rfl⟩)) e
  · have h0 := Wl.append B S g b W p cc hp a c bs hv hc hn hcnt bs.flatten rfl h1.1 h1.2 h2
    exact h0.sub fun v l ⟨p', c', e1, e2, e3⟩ => ⟨_, e3 ▸ sub_wlA, by rw [h3]; exact e1, rfl⟩
/-- A disk behind a flush. -/
def flushE (W : Wl) (D : DD) : DD := if W.dur = W.st.length then D else flushD W D
theorem Wl.forceYes (B : Base) (g b : Nat) (W : Wl) (D : DD) (mark : Int) (hD : W.first + W.count ≤ D.secs.length) (hs : D.secs.length ≤ 4096) (hst : W.st.length ≤ W.count * 256) (hdur : W.dur ≤ W.st.length) (hroom : D.pend.length + 4096 < 2 ^ 32) (hm : W.dur < mark ∨ W.dur = W.st.length) :
    Fn Tryz.prog B 121 #[.pointer (some ⟨g, 0, none⟩), .int .i64 mark] [wlA g b W, dskA b D] (fun u l => u = .tuple #[] ∧ l = [wlA g b W.flushed, dskA b (flushE W D)]) := by
  refine Fn.openWl fun p cc hp hcc => ?_
  unfold flushE
  by_cases h : W.dur = W.st.length
  · rw [if_pos h]
    have h0 := (Wl.force_no B g b W p cc mark (by omega) (.inr h)).frame [rB (.slice p W.st.length cc) W.st.length W.st, dskA b D]
    refine h0.sub fun v l ⟨l', ⟨e1, e2⟩, e3⟩ => ⟨_, ?_, e1, rfl⟩
    subst e2; subst e3
    rw [show W.flushed = W by cases W; simp_all [Wl.flushed]]
    exact sub_wlA
  · rw [if_neg h]
    have h0 := Wl.force B g b W p cc hp hcc D mark hD hs hst hdur hroom (by omega) h
    exact h0.sub fun v l ⟨e1, e2⟩ => ⟨_, e2 ▸ sub_wlA (W := W.flushed), e1, rfl⟩
theorem Wl.forceNo (B : Base) (g b : Nat) (W : Wl) (mark : Int) (hdur : W.dur < 2 ^ 40) (hm : mark ≤ W.dur) :
    Fn Tryz.prog B 121 #[.pointer (some ⟨g, 0, none⟩), .int .i64 mark] [wlA g b W] (fun u l => u = .tuple #[] ∧ l = [wlA g b W]) := by
  refine Fn.openWl fun p cc hp hcc => ?_
  have h0 := (Wl.force_no B g b W p cc mark hdur (.inl hm)).frame [rB (.slice p W.st.length cc) W.st.length W.st]
  refine h0.sub fun v l ⟨l', ⟨e1, e2⟩, e3⟩ => ⟨_, ?_, e1, rfl⟩
  subst e2; subst e3
  exact sub_wlA
/-- What Open leaves, whatever the disk holds. -/
def OpenAny (b first count : Nat) (D : DD) (u : Value) (l : List Assn) : Prop := ∃ g q cq R ds D', (∀ d ∈ ds, OkD d) ∧ R.map (fun x : WRec => (x.mark, x.r.b)) = logR 0 ds ∧ D'.Ok ∧ D'.secs.length = D.secs.length ∧ D'.pend = [] ∧ Secs D' first count (logB 0 0 ds) ∧ (logB 0 0 ds).length ≤ count * 256 ∧
  (∀ x, x < D.secs.length → (x < first ∨ first + count ≤ x) → D'.read x = D.read x) ∧ ((logB 0 0 ds).length, logS 0 0 ds, logR 0 ds) = scanW (allD D first count) (count * 256 + 1) 0 0 ∧
  u = .tuple #[.pointer (some ⟨g, 0, none⟩), .slice q ds.length cq, .int .i64 0] ∧ l = [wrecR q ds.length cq R, recsA (R.map WRec.r), wlA g b (mkW first count ds (logB 0 0 ds).length), dskA b D']
theorem Wl.openAny (B : Base) (b : Nat) (D : DD) (first count : Nat) (i j : Int) (hi : i = first) (hj : j = count) (h1 : 1 ≤ count) (hD : first + count ≤ D.secs.length) (hroom : D.pend.length + 4096 < 2 ^ 32) :
    Fn Tryz.prog B 20 #[.pointer (some ⟨b, 0, none⟩), .int .i64 i, .int .i64 j] [dskA b D] (OpenAny b first count D) := by
  subst hi; subst hj
  refine Fn.diskOk fun ho => ?_
  refine (Wl.open B b D first count h1 hD ho.max hroom (fun n hn => ho.rd n hn)).sub fun u l h => ?_
  obtain ⟨g, p, c, q, cq, R, k, s, e1, e2, e3, e4, e5, e6, e7⟩ := h
  have hal := allD_length ho count hD
  obtain ⟨ds, k1, k2, k3, k4⟩ := scan_back (count * 256 + 1) 0 0 (allD D first count) (Nat.zero_le _)
  rw [k2] at e1
  injection e1 with f1 f2
  injection f2 with f2 f3
  rw [Nat.zero_add] at f1 k4 k2
  rw [List.drop_zero] at k3
  subst f1
  subst f2
  have hw := Secs.wiped (s := logS 0 0 ds) ho hD (show (logB 0 0 ds).length ≤ count * 256 by omega)
  obtain ⟨w1, w2⟩ := wipe_ok (W := ⟨first, count, (allD D first count).take (logB 0 0 ds).length, logS 0 0 ds, (logB 0 0 ds).length⟩) (al := allD D first count) (k := count - (logB 0 0 ds).length / 256) (n := (logB 0 0 ds).length / 256) ho (by show first + _ ≤ _; omega)
  have hR : R.length = ds.length := by rw [← length_logR 0 ds, f3, List.length_map]
  rw [hR] at e6 e7
  rw [k3] at e7 hw w1 w2
  refine ⟨_, ?_, g, q, cq, R, ds, _, k1, f3.symm, w1.sy, (DD.sync_len w1).trans w2, rfl, hw.sync w1 (by rw [w2]; exact hD), e2, ?_, k2.symm, e6, rfl⟩
  · rw [e7]
    intro h H
    refine Has.cons_imp (fun _ H => Has.cons_imp (fun _ H => ?_) H) H
    obtain ⟨h1, h2, d, a1, a2, k1, k2⟩ := Has.split (l := [_, _]) H
    refine ⟨h1, h2, d, a1, a2, ⟨p, c, ?_⟩, k2⟩
    exact Has.swap k1
  · intro x hx hxo
    rw [DD.rdS w1 _ (by omega), wipe_out (by show x < first + _ ∨ first + (_ + _) ≤ x; omega)]
end Go.Proofs.YtegohgaccmkigaaGreatDoor

/- The statements of the package wal: awake. Conditions: none. -/
set_option linter.unusedSimpArgs false
set_option linter.unusedVariables false
namespace Go.Proofs.YtegohgaccmkigaaGreatDoor
open Go.RowKit

/-- What Open leaves where the disk holds the text of the records ds. -/
def OpenTx (b first count : Nat) (ds : List (List UInt8)) (D : DD) (u : Value) (l : List Assn) : Prop := ∃ g q cq R D', R.map (fun x : WRec => (x.mark, x.r.b)) = logR 0 ds ∧ D'.Ok ∧ D'.secs.length = D.secs.length ∧ D'.pend = [] ∧ Secs D' first count (logB 0 0 ds) ∧
  (∀ x, x < D.secs.length → (x < first ∨ first + count ≤ x) → D'.read x = D.read x) ∧
  u = .tuple #[.pointer (some ⟨g, 0, none⟩), .slice q ds.length cq, .int .i64 0] ∧ l = [wrecR q ds.length cq R, recsA (R.map WRec.r), wlA g b (mkW first count ds (logB 0 0 ds).length), dskA b D']
theorem Wl.openText (B : Base) (b : Nat) (D : DD) (first count : Nat) (ds : List (List UInt8)) (i j : Int) (hi : i = first) (hj : j = count) (h1 : 1 ≤ count) (hD : first + count ≤ D.secs.length) (hroom : D.pend.length + 4096 < 2 ^ 32) (hs : Secs D first count (logB 0 0 ds)) (hok : ∀ d ∈ ds, OkD d) (hl : (logB 0 0 ds).length ≤ count * 256) :
    Fn Tryz.prog B 20 #[.pointer (some ⟨b, 0, none⟩), .int .i64 i, .int .i64 j] [dskA b D] (OpenTx b first count ds D) := by
  refine (Wl.openAny B b D first count i j hi hj h1 hD hroom).mono fun u l h => ?_
  obtain ⟨g, q, cq, R, ds', D', e1, e2, e3, e4, e5, e6, e7, e8, e9, e10, e11⟩ := h
  rw [all_text hs hl, scan_text ds _ _ (by have := length_logB_le 0 0 ds; omega) hok] at e9
  injection e9 with f1 f2
  injection f2 with f2 f3
  have : ds' = ds := by rw [← logR_snd 0 ds', f3, logR_snd]
  subst this
  exact ⟨g, q, cq, R, D', e2, e3, e4, e5, e6, e8, e10, e11⟩
end Go.Proofs.YtegohgaccmkigaaGreatDoor

/- The package buffer: what a pool is in memory; calls through an interface; find, pinned, Unpin, Bytes, Put, Frames, Pages. Conditions: sizes; that what is handed in can be read. -/
set_option linter.unusedSimpArgs false
set_option linter.unusedVariables false
namespace Go.Proofs.YtegohgaccmkigaaGreatDoor
open Go.RowKit

section
variable {P : Program} {B : Base} {n : Nat} {S l r : List Assn} {f : Fr} {K : Value → List Assn → Prop} {d : Option Tmp} {ty : TypeId} {pos : String} {af : Array Edge} {gd : Option (Nat × Bool)}
theorem Qt.iface {t : TypeId} {x : Operand} {v : Value} (ht : (match P.underlying t with | some (.interface _) => false | some _ => true | none => false) = true) (hx : ev n f x = some v) : Qt P B n S ⟨d, .makeInterface t x, ty, pos, af, gd⟩ f (.iface t v) := ⟨fun w _ => by
  split at ht
  · cases ht
  · rename_i u hn hu
    have : (Instr.makeInterface t v).run P w = .ok (.iface t v) w := by
      unfold Instr.makeInterface
      rw [Sem.run_bind, run_underlying hu]
      simp only [Result.andThen_ok]
      rfl
    simp [execOp, evu_eq hx, this]
  · cases ht⟩
/-- A call through an interface whose value is known. -/
theorem Ef.callI {g : FuncId} {fn : Func} {t : TypeId} {x : Operand} {name : String} {args : Array Operand} {ats : Array TypeId} {v : Value} {vs : List Value} {pre F : List Assn} {R : Value → List Assn → Prop} (hc : Fn P B g (v :: vs).toArray pre R) (hf : P.funcs[g]? = some fn) (hn : (fn.name == "runtime.NumGoroutine") = false) (hb : fn.body.isNone = false)
    (hx : ev n f x = some (.iface t v)) (hm : ∀ w, (method (P.types.size + Made.depth) t v name).run P w = .ok (g, v) w) (ha : args.toList.map (ev n f) = vs.map some) [k : TakeL pre l F] (h : ∀ v l', R v l' → K v (l' ++ F)) : Ef P B n ⟨d, .call ⟨.invoke x name, args, ats⟩, ty, pos, af, gd⟩ f l K := ⟨fun w next Q ho hk => by
  have hav : args.map (evu n f) = vs.toArray := by
    have : args.toList.map (evu n f) = vs := by
      have e := congrArg (List.map (fun o : Option Value => o.getD undef)) ha
      have e2 : (fun x => evu n f x) = evu n f := rfl
      simp only [List.map_map, Function.comp_def, Option.getD_some, List.map_id'] at e
      exact e
    rw [← Array.toList_inj, Array.toList_map]
    simpa using this
  have h0 := hc.run w F ho.takeL
  unfold Oper.wp execOp
  rw [eval_act']
  have he : ((do let c ← resolve (evu n f) ⟨.invoke x name, args, ats⟩ ty; invoke c.target c.args) : Sem Next).run P w = .ok (.enter g (v :: vs).toArray) w := by
    have hn' : ¬ fn.name = "runtime.NumGoroutine" := by simpa using hn
    have hb' : ¬ fn.body = none := fun e => by rw [e] at hb; cases hb
    simp [resolve, hav, evu_eq hx, Go.invoke, callMethod, callFunc, hm, hf, hn', hb']
  rw [he]
  show Calls P g (v :: vs).toArray w _
  refine Calls.mono h0 ?_
  rintro e w' ⟨v, l', rfl, hR, ho'⟩
  exact hk v w' _ (h v l' hR) ho'⟩
end

structure Fm where
  page : Int
  mark : Int
  pins : Int
  dirty : Bool
  used : Bool
  p : Option Addr
  c : Nat
  b : List UInt8
abbrev fmC (x : Fm) : List Value := [.int .i64 x.page, .slice x.p x.b.length x.c, .int .i64 x.mark, .int .i64 x.pins, .bool x.dirty, .bool x.used]
/-- The frames; the pool. -/
abbrev fmR (gf n : Nat) (Fs : List Fm) : Assn := row (.slice (some ⟨gf, 0, none⟩) n n) 103 6 n (Fs.flatMap fmC)
abbrev poolB (g b gf n first count hand : Nat) (pl : Option Addr) (nl cl : Nat) : Assn := blk g [.pointer (some ⟨b, 0, none⟩), .int .i64 first, .int .i64 count, .slice (some ⟨gf, 0, none⟩) n n, .int .i64 hand, .slice pl nl cl] 69
theorem fm_at {Fs : List Fm} {i : Nat} {x : Fm} (h : Fs[i]? = some x) (j : Nat) (hj : j < 6) : (Fs.flatMap fmC)[0 + i * 6 + j]? = (fmC x)[j]? := by
  induction Fs generalizing i with
  | nil => simp at h
  | cons y R ih =>
    cases i with
    | zero =>
      simp at h; subst h
      rw [List.flatMap_cons, Nat.zero_mul, Nat.add_zero, Nat.zero_add, List.getElem?_append_left (by simpa using hj)]
    | succ i =>
      have := ih (i := i) (by simpa using h)
      rw [List.flatMap_cons, List.getElem?_append_right (by simp; omega), ← this]
      congr 1
      simp; omega
theorem fm_set {Fs : List Fm} {i : Nat} {x y : Fm} (h : Fs[i]? = some x) (j : Nat) (hj : j < 6) (v : Value) (hy : fmC y = (fmC x).set j v) : (Fs.flatMap fmC).set (0 + i * 6 + j) v = (Fs.set i y).flatMap fmC := by
  induction Fs generalizing i with
  | nil => simp at h
  | cons z R ih =>
    cases i with
    | zero =>
      simp at h; subst h
      rw [List.flatMap_cons, Nat.zero_mul, Nat.add_zero, Nat.zero_add, List.set_append_left _ _ (by simpa using hj), ← hy]
      rfl
    | succ i =>
      have := ih (i := i) (by simpa using h)
      rw [List.flatMap_cons, List.set_cons_succ, List.flatMap_cons, ← this, List.set_append_right _ _ (by simp; omega)]
      congr 2
      simp; omega
theorem fm_splice {Fs : List Fm} {i : Nat} (h : i < Fs.length) (y : Fm) : splice (Fs.flatMap fmC) (0 + i * 6) (fmC y) = (Fs.set i y).flatMap fmC := by
  unfold splice
  induction Fs generalizing i with
  | nil => simp at h
  | cons z R ih =>
    cases i with
    | zero => simp [List.flatMap_cons]
    | succ i =>
      have := ih (i := i) (by simpa using h)
      rw [List.set_cons_succ, List.flatMap_cons, List.flatMap_cons, ← this]
      rw [List.take_append, List.drop_append, List.take_of_length_le (l := fmC z) (by first | (simp; done) | (simp; omega)), List.drop_of_length_le (l := fmC z) (by first | (simp; done) | (simp; omega))]
      simp only [List.length_cons, List.length_nil, List.nil_append, List.append_assoc]
      congr 2
      · congr 1; omega
      · congr 2; omega
theorem fm_len (Fs : List Fm) : (Fs.flatMap fmC).length = Fs.length * 6 := flat_length fmC 6 _ (fun _ _ => rfl)

set_option maxHeartbeats 1000000 in
set_option maxRecDepth 100000 in
theorem Bf.find_some (B : Base) (g b gf n first count hand : Nat) (pl : Option Addr) (nl cl : Nat) (Fs : List Fm) (page : Int) (i : Nat) (x : Fm) (hn : Fs.length = n) (hn2 : n ≤ 4096) (hx : Fs[i]? = some x) (hp : x.page = page) (h0 : 0 ≤ page) (hfirst : ∀ (j : Nat), j < i → ∀ y : Fm, Fs[j]? = some y → y.page ≠ page) :
  Fn Tryz.prog B 39 #[.pointer (some ⟨g, 0, none⟩), .int .i64 page] [poolB g b gf n first count hand pl nl cl, fmR gf n Fs] (fun u l => u = .pointer (some ⟨gf, 0 + i * 6, none⟩) ∧ l = [poolB g b gf n first count hand pl nl cl, fmR gf n Fs]) := by
 have hi : i < n := by rw [← hn]; exact (List.getElem?_eq_some_iff.1 hx).1
 refine Fn.enter2 33 Tryz.func39 rfl rfl (Nat.le_of_ble_eq_true rfl) (fun F => ?_)
 try simp only [List.cons_append, List.nil_append]
 refine T.seq ?_
 refine T.region ?_
 refine LW.q rfl (Qt.assign rfl) ?_
 refine LW.done ?_
 refine T.seq ?_
 refine T.seq ?_
 refine T.region ?_
 refine LW.q rfl (Qt.move rfl) ?_
 refine LW.q rfl (Qt.nilCheck rfl) ?_
 refine LW.q rfl (Qt.fieldAddr (off := 3) (by kernel_rfl) rfl) ?_
 first | refine LW.q rfl (Qt.load (by kernel_rfl) rfl rfl) ?_ | refine LW.q rfl (Qt.load (by kernel_rfl) rfl (map_at _ _ _ (by omega))) ?_ | refine LW.q rfl (Qt.load (by kernel_rfl) rfl (flat_cell0 _ _ _ (by intros; rfl) _ (by omega) (by rfl))) ?_ | refine LW.q rfl (Qt.load (by kernel_rfl) rfl (flat_cell _ _ _ (by intros; rfl) _ _ (by omega) (by rfl))) ?_ | refine LW.q rfl (Qt.load (by kernel_rfl) rfl (bytes_at _ _ (by omega))) ?_
 refine LW.q rfl (Qt.len (e := 103) (sz := 6) (by kernel_rfl) rfl) ?_
 refine LW.q rfl (Qt.move rfl) ?_
 refine LW.done ?_
 refine T.block ?_
 refine T.loop (fun mz fz lz => ∃ (f0 : Fr) (k : Nat), (k ≤ i) ∧ mz = n - k ∧ fz = (upd (upd (upd (upd f0 0 (.pointer (some ⟨g, 0, none⟩))) 1 (.int .i64 page)) 11 (.int .i64 n)) 12 (.int .i64 k)) ∧ lz = poolB g b gf n first count hand pl nl cl :: fmR gf n Fs :: F) ?_ ?_
 · refine ⟨_, _, ⟨_, 0, Nat.zero_le _, rfl, (updS rfl (updS rfl (updS rfl (updS rfl rfl)))), rfl⟩, Sub.any⟩
 ·
  rintro mz fz lz ⟨f0, k, hk, hmz, rfl, rfl⟩
  subst mz
  try simp only [List.cons_append, List.nil_append]
  obtain ⟨y, hy⟩ : ∃ y, Fs[k]? = some y := ⟨_, List.getElem?_eq_getElem (by omega)⟩
  refine T.seq ?_
  refine T.region ?_
  refine LW.q rfl (Qt.lss rfl rfl) ?_
  refine LW.done ?_
  refine T.seq ?_
  first | refine T.condT rfl ?_ | refine T.condPT rfl (by omega) ?_ | refine T.condBT rfl (by omega) ?_
  by_cases e : k = i
  ·
   subst e
   obtain rfl : y = x := by rw [hx] at hy; exact (Option.some.inj hy).symm
   refine T.skip ?_
   refine T.seq ?_
   refine T.block ?_
   refine T.seq ?_
   refine T.region ?_
   refine LW.q rfl (Qt.move rfl) ?_
   refine LW.q rfl (Qt.assign rfl) ?_
   refine LW.done ?_
   refine T.seq ?_
   refine T.region ?_
   refine LW.q rfl (Qt.move rfl) ?_
   refine LW.q rfl (Qt.nilCheck rfl) ?_
   refine LW.q rfl (Qt.fieldAddr (off := 3) (by kernel_rfl) rfl) ?_
   first | refine LW.q rfl (Qt.load (by kernel_rfl) rfl rfl) ?_ | refine LW.q rfl (Qt.load (by kernel_rfl) rfl (map_at _ _ _ (by omega))) ?_ | refine LW.q rfl (Qt.load (by kernel_rfl) rfl (flat_cell0 _ _ _ (by intros; rfl) _ (by omega) (by rfl))) ?_ | refine LW.q rfl (Qt.load (by kernel_rfl) rfl (flat_cell _ _ _ (by intros; rfl) _ _ (by omega) (by rfl))) ?_ | refine LW.q rfl (Qt.load (by kernel_rfl) rfl (bytes_at _ _ (by omega))) ?_
   refine LW.q rfl (Qt.move rfl) ?_
   refine LW.q rfl (Qt.index _ (e := 103) (sz := 6) (by kernel_rfl) rfl rfl rfl (by omega)) ?_
   refine LW.q rfl (Qt.assign rfl) ?_
   refine LW.done ?_
   refine T.seq ?_
   refine T.region ?_
   refine LW.q rfl (Qt.move rfl) ?_
   refine LW.q rfl (Qt.nilCheck rfl) ?_
   refine LW.q rfl (Qt.fieldAddr0 (by kernel_rfl) rfl) ?_
   refine LW.q rfl (Qt.load (v := .int .i64 y.page) (by kernel_rfl) rfl (fm_at hy 0 (by omega))) ?_
   refine LW.q rfl (Qt.move rfl) ?_
   refine LW.q rfl (Qt.eql rfl rfl) ?_
   refine LW.q rfl (Qt.move rfl) ?_
   first | refine LW.gT (t := 27) rfl rfl ?_ | refine LW.gT (t := 27) rfl (decide_eq_true (hp)) ?_ | refine LW.gT (t := 27) rfl (hp) ?_
   refine LW.q rfl (Qt.move rfl) ?_
   refine LW.q rfl (Qt.geq rfl rfl) ?_
   refine LW.q rfl (Qt.pick rfl rfl) ?_
   refine LW.done ?_
   first | refine T.condT rfl ?_ | refine T.condPT rfl (by omega) ?_ | refine T.condBT rfl (by omega) ?_
   refine T.seq ?_
   refine T.region ?_
   refine LW.q rfl (Qt.move rfl) ?_
   refine LW.q rfl (Qt.assign rfl) ?_
   refine LW.done ?_
   refine T.ret ?_
   exact ⟨.inl rfl, _, _, res [_] rfl ⟨rvT rfl, trivial⟩, ⟨rfl, rfl⟩, Sub.any⟩
  ·
   refine T.skip ?_
   refine T.seq ?_
   refine T.block ?_
   refine T.seq ?_
   refine T.region ?_
   refine LW.q rfl (Qt.move rfl) ?_
   refine LW.q rfl (Qt.assign rfl) ?_
   refine LW.done ?_
   refine T.seq ?_
   refine T.region ?_
   refine LW.q rfl (Qt.move rfl) ?_
   refine LW.q rfl (Qt.nilCheck rfl) ?_
   refine LW.q rfl (Qt.fieldAddr (off := 3) (by kernel_rfl) rfl) ?_
   first | refine LW.q rfl (Qt.load (by kernel_rfl) rfl rfl) ?_ | refine LW.q rfl (Qt.load (by kernel_rfl) rfl (map_at _ _ _ (by omega))) ?_ | refine LW.q rfl (Qt.load (by kernel_rfl) rfl (flat_cell0 _ _ _ (by intros; rfl) _ (by omega) (by rfl))) ?_ | refine LW.q rfl (Qt.load (by kernel_rfl) rfl (flat_cell _ _ _ (by intros; rfl) _ _ (by omega) (by rfl))) ?_ | refine LW.q rfl (Qt.load (by kernel_rfl) rfl (bytes_at _ _ (by omega))) ?_
   refine LW.q rfl (Qt.move rfl) ?_
   refine LW.q rfl (Qt.index _ (e := 103) (sz := 6) (by kernel_rfl) rfl rfl rfl (by omega)) ?_
   refine LW.q rfl (Qt.assign rfl) ?_
   refine LW.done ?_
   refine T.seq ?_
   refine T.region ?_
   refine LW.q rfl (Qt.move rfl) ?_
   refine LW.q rfl (Qt.nilCheck rfl) ?_
   refine LW.q rfl (Qt.fieldAddr0 (by kernel_rfl) rfl) ?_
   refine LW.q rfl (Qt.load (v := .int .i64 y.page) (by kernel_rfl) rfl (fm_at hy 0 (by omega))) ?_
   refine LW.q rfl (Qt.move rfl) ?_
   refine LW.q rfl (Qt.eql rfl rfl) ?_
   refine LW.q rfl (Qt.move rfl) ?_
   first | refine LW.gF (t := 27) rfl rfl ?_ | refine LW.gF (t := 27) rfl (decide_eq_false ((hfirst k (by omega) y hy))) ?_ | refine LW.gF (t := 27) rfl ((hfirst k (by omega) y hy)) ?_
   refine LW.s rfl ?_
   refine LW.s rfl ?_
   refine LW.q rfl (Qt.pick rfl rfl) ?_
   refine LW.done ?_
   first | refine T.condF rfl ?_ | refine T.condPF rfl (by omega) ?_ | refine T.condBF rfl (by omega) ?_
   refine T.skip ?_
   refine T.region ?_
   refine LW.q rfl (Qt.add rfl rfl (wr64 (by omega) (by omega))) ?_
   refine LW.q rfl (Qt.move rfl) ?_
   refine LW.done ?_
   refine ⟨_, ?_, _, ⟨_, k + 1, by omega, rfl, (updS rfl (updS rfl (updS rfl (updS rfl rfl)))), rfl⟩, Sub.any⟩
   first | omega | (simp; omega)
set_option maxHeartbeats 1000000 in
set_option maxRecDepth 100000 in
theorem Bf.find_none (B : Base) (g b gf n first count hand : Nat) (pl : Option Addr) (nl cl : Nat) (Fs : List Fm) (page : Int) (hn : Fs.length = n) (hn2 : n ≤ 4096) (hno : ∀ (j : Nat) (y : Fm), Fs[j]? = some y → y.page = page → page < 0) :
  Fn Tryz.prog B 39 #[.pointer (some ⟨g, 0, none⟩), .int .i64 page] [poolB g b gf n first count hand pl nl cl, fmR gf n Fs] (fun u l => u = .pointer none ∧ l = [poolB g b gf n first count hand pl nl cl, fmR gf n Fs]) := by
 refine Fn.enter2 33 Tryz.func39 rfl rfl (Nat.le_of_ble_eq_true rfl) (fun F => ?_)
 try simp only [List.cons_append, List.nil_append]
 refine T.seq ?_
 refine T.region ?_
 refine LW.q rfl (Qt.assign rfl) ?_
 refine LW.done ?_
 refine T.seq ?_
 refine T.seq ?_
 refine T.region ?_
 refine LW.q rfl (Qt.move rfl) ?_
 refine LW.q rfl (Qt.nilCheck rfl) ?_
 refine LW.q rfl (Qt.fieldAddr (off := 3) (by kernel_rfl) rfl) ?_
 first | refine LW.q rfl (Qt.load (by kernel_rfl) rfl rfl) ?_ | refine LW.q rfl (Qt.load (by kernel_rfl) rfl (map_at _ _ _ (by omega))) ?_ | refine LW.q rfl (Qt.load (by kernel_rfl) rfl (flat_cell0 _ _ _ (by intros; rfl) _ (by omega) (by rfl))) ?_ | refine LW.q rfl (Qt.load (by kernel_rfl) rfl (flat_cell _ _ _ (by intros; rfl) _ _ (by omega) (by rfl))) ?_ | refine LW.q rfl (Qt.load (by kernel_rfl) rfl (bytes_at _ _ (by omega))) ?_
 refine LW.q rfl (Qt.len (e := 103) (sz := 6) (by kernel_rfl) rfl) ?_
 refine LW.q rfl (Qt.move rfl) ?_
 refine LW.done ?_
 refine T.block ?_
 refine T.loop (fun mz fz lz => ∃ (f0 : Fr) (k : Nat), (k ≤ n) ∧ mz = n - k ∧ fz = (upd (upd (upd (upd f0 0 (.pointer (some ⟨g, 0, none⟩))) 1 (.int .i64 page)) 11 (.int .i64 n)) 12 (.int .i64 k)) ∧ lz = poolB g b gf n first count hand pl nl cl :: fmR gf n Fs :: F) ?_ ?_
 · refine ⟨_, _, ⟨_, 0, Nat.zero_le _, rfl, (updS rfl (updS rfl (updS rfl (updS rfl rfl)))), rfl⟩, Sub.any⟩
 ·
  rintro mz fz lz ⟨f0, k, hk, hmz, rfl, rfl⟩
  subst mz
  try simp only [List.cons_append, List.nil_append]
  refine T.seq ?_
  refine T.region ?_
  refine LW.q rfl (Qt.lss rfl rfl) ?_
  refine LW.done ?_
  refine T.seq ?_
  refine T.condP rfl (fun hlt => ?_) (fun hlt => ?_)
  ·
   obtain ⟨y, hy⟩ : ∃ y, Fs[k]? = some y := ⟨_, List.getElem?_eq_getElem (by omega)⟩
   refine T.skip ?_
   refine T.seq ?_
   refine T.block ?_
   refine T.seq ?_
   refine T.region ?_
   refine LW.q rfl (Qt.move rfl) ?_
   refine LW.q rfl (Qt.assign rfl) ?_
   refine LW.done ?_
   refine T.seq ?_
   refine T.region ?_
   refine LW.q rfl (Qt.move rfl) ?_
   refine LW.q rfl (Qt.nilCheck rfl) ?_
   refine LW.q rfl (Qt.fieldAddr (off := 3) (by kernel_rfl) rfl) ?_
   first | refine LW.q rfl (Qt.load (by kernel_rfl) rfl rfl) ?_ | refine LW.q rfl (Qt.load (by kernel_rfl) rfl (map_at _ _ _ (by omega))) ?_ | refine LW.q rfl (Qt.load (by kernel_rfl) rfl (flat_cell0 _ _ _ (by intros; rfl) _ (by omega) (by rfl))) ?_ | refine LW.q rfl (Qt.load (by kernel_rfl) rfl (flat_cell _ _ _ (by intros; rfl) _ _ (by omega) (by rfl))) ?_ | refine LW.q rfl (Qt.load (by kernel_rfl) rfl (bytes_at _ _ (by omega))) ?_
   refine LW.q rfl (Qt.move rfl) ?_
   refine LW.q rfl (Qt.index _ (e := 103) (sz := 6) (by kernel_rfl) rfl rfl rfl (by omega)) ?_
   refine LW.q rfl (Qt.assign rfl) ?_
   refine LW.done ?_
   refine T.seq ?_
   refine T.region ?_
   refine LW.q rfl (Qt.move rfl) ?_
   refine LW.q rfl (Qt.nilCheck rfl) ?_
   refine LW.q rfl (Qt.fieldAddr0 (by kernel_rfl) rfl) ?_
   refine LW.q rfl (Qt.load (v := .int .i64 y.page) (by kernel_rfl) rfl (fm_at hy 0 (by omega))) ?_
   refine LW.q rfl (Qt.move rfl) ?_
   refine LW.q rfl (Qt.eql rfl rfl) ?_
   refine LW.q rfl (Qt.move rfl) ?_
   refine LW.split (t := 27) rfl (fun he => ?_) (fun he => ?_)
   ·
    try replace he := of_decide_eq_true he
    have hneg := hno k y hy he
    refine LW.q rfl (Qt.move rfl) ?_
    refine LW.q rfl (Qt.geq rfl rfl) ?_
    refine LW.q rfl (Qt.pick rfl rfl) ?_
    refine LW.done ?_
    first | refine T.condF rfl ?_ | refine T.condPF rfl (by omega) ?_ | refine T.condBF rfl (by omega) ?_
    refine T.skip ?_
    refine T.region ?_
    refine LW.q rfl (Qt.add rfl rfl (wr64 (by omega) (by omega))) ?_
    refine LW.q rfl (Qt.move rfl) ?_
    refine LW.done ?_
    refine ⟨_, ?_, _, ⟨_, k + 1, by omega, rfl, (updS rfl (updS rfl (updS rfl (updS rfl rfl)))), rfl⟩, Sub.any⟩
    first | omega | (simp; omega)
   ·
    try replace he := of_decide_eq_false he
    refine LW.s rfl ?_
    refine LW.s rfl ?_
    refine LW.q rfl (Qt.pick rfl rfl) ?_
    refine LW.done ?_
    first | refine T.condF rfl ?_ | refine T.condPF rfl (by omega) ?_ | refine T.condBF rfl (by omega) ?_
    refine T.skip ?_
    refine T.region ?_
    refine LW.q rfl (Qt.add rfl rfl (wr64 (by omega) (by omega))) ?_
    refine LW.q rfl (Qt.move rfl) ?_
    refine LW.done ?_
    refine ⟨_, ?_, _, ⟨_, k + 1, by omega, rfl, (updS rfl (updS rfl (updS rfl (updS rfl rfl)))), rfl⟩, Sub.any⟩
    first | omega | (simp; omega)
  ·
   refine T.exit ?_
   refine T.seq ?_
   refine T.region ?_
   refine LW.q rfl (Qt.assign rfl) ?_
   refine LW.done ?_
   refine T.ret ?_
   exact ⟨.inl rfl, _, _, res [_] rfl ⟨rvT rfl, trivial⟩, ⟨rfl, rfl⟩, Sub.any⟩
end Go.Proofs.YtegohgaccmkigaaGreatDoor

/- The package buffer: pinned, Unpin, Bytes, Put, Frames, Pages. Conditions: sizes; that what is handed in can be read. -/
set_option linter.unusedSimpArgs false
set_option linter.unusedVariables false
namespace Go.Proofs.YtegohgaccmkigaaGreatDoor
open Go.RowKit

theorem Bf.elemI : ElemOk Tryz.prog 61 3 1 8 := .mk' (.int .i64 0) Tryz.underlying61 (by kernel_rfl) rfl (by omega)
/-- Frame i is the first with this page. -/
structure Fd (Fs : List Fm) (page : Int) (i : Nat) (x : Fm) : Prop where
  at_ : Fs[i]? = some x
  pg : x.page = page
  pos : 0 ≤ page
  first : ∀ (j : Nat), j < i → ∀ y : Fm, Fs[j]? = some y → y.page ≠ page

set_option maxHeartbeats 1000000 in
set_option maxRecDepth 100000 in
theorem Bf.pinned_some (B : Base) (g b gf n first count hand : Nat) (pl : Option Addr) (nl cl : Nat) (Fs : List Fm) (page : Int) (i : Nat) (x : Fm) (hn : Fs.length = n) (hn2 : n ≤ 4096) (hx : Fd Fs page i x) (hpin : 0 < x.pins) :
    Fn Tryz.prog B 41 #[.pointer (some ⟨g, 0, none⟩), .int .i64 page] [poolB g b gf n first count hand pl nl cl, fmR gf n Fs] (fun u l => u = .pointer (some ⟨gf, 0 + i * 6, none⟩) ∧ l = [poolB g b gf n first count hand pl nl cl, fmR gf n Fs]) := by
  refine Fn.enter2 19 Tryz.func41 rfl rfl (Nat.le_of_ble_eq_true rfl) (fun F => ?_)
  try simp only [List.cons_append, List.nil_append]
  refine T.seq ?_
  refine T.region ?_
  refine LW.q rfl (Qt.assign rfl) ?_
  refine LW.done ?_
  refine T.seq ?_
  refine T.seq ?_
  refine T.region ?_
  refine LW.q rfl (Qt.move rfl) ?_
  refine LW.q rfl (Qt.move rfl) ?_
  refine LW.e rfl (Ef.call (Bf.find_some B g b gf n first count hand pl nl cl Fs page i x hn hn2 hx.at_ hx.pg hx.pos hx.first) Tryz.func39 rfl rfl rfl ?_)
  rintro _ _ ⟨rfl, rfl⟩
  try simp only [List.cons_append, List.nil_append]
  refine LW.q rfl (Qt.assign rfl) ?_
  refine LW.done ?_
  refine T.seq ?_
  refine T.region ?_
  refine LW.q rfl (Qt.move rfl) ?_
  first | refine LW.q rfl (Qt.neqNil (by kernel_rfl) rfl rfl) ?_ | refine LW.q rfl (Qt.neqNN (by kernel_rfl) rfl rfl) ?_
  refine LW.q rfl (Qt.move rfl) ?_
  first | refine LW.gT (t := 11) rfl rfl ?_ | refine LW.gT (t := 11) rfl (decide_eq_true (by omega)) ?_ | refine LW.gT (t := 11) rfl (by omega) ?_
  refine LW.q rfl (Qt.move rfl) ?_
  refine LW.q rfl (Qt.nilCheck rfl) ?_
  refine LW.q rfl (Qt.fieldAddr (off := 3) (by kernel_rfl) rfl) ?_
  refine LW.q rfl (Qt.load (v := .int .i64 x.pins) (by kernel_rfl) rfl (fm_at hx.at_ 3 (by omega))) ?_
  refine LW.q rfl (Qt.gtr rfl rfl) ?_
  refine LW.q rfl (Qt.pick rfl rfl) ?_
  refine LW.done ?_
  first | refine T.condT rfl ?_ | refine T.condPT rfl (by omega) ?_ | refine T.condBT rfl (by omega) ?_
  refine T.seq ?_
  refine T.region ?_
  refine LW.q rfl (Qt.move rfl) ?_
  refine LW.q rfl (Qt.assign rfl) ?_
  refine LW.done ?_
  refine T.ret ?_
  exact ⟨.inl rfl, _, _, res [_] rfl ⟨rvT rfl, trivial⟩, ⟨rfl, rfl⟩, Sub.any⟩
set_option maxHeartbeats 1000000 in
set_option maxRecDepth 100000 in
theorem Bf.unpin (B : Base) (g b gf n first count hand : Nat) (pl : Option Addr) (nl cl : Nat) (Fs : List Fm) (page : Int) (i : Nat) (x : Fm) (hn : Fs.length = n) (hn2 : n ≤ 4096) (hx : Fd Fs page i x) (hpin : 0 < x.pins) (hpin2 : x.pins < 2 ^ 62) :
    Fn Tryz.prog B 15 #[.pointer (some ⟨g, 0, none⟩), .int .i64 page] [poolB g b gf n first count hand pl nl cl, fmR gf n Fs] (fun u l => u = .int .i64 0 ∧ l = [poolB g b gf n first count hand pl nl cl, fmR gf n (Fs.set i { x with pins := x.pins - 1 })]) := by
  have hi : i < Fs.length := (List.getElem?_eq_some_iff.1 hx.at_).1
  have hfl := fm_len Fs
  refine Fn.enter2 18 Tryz.func15 rfl rfl (Nat.le_of_ble_eq_true rfl) (fun F => ?_)
  try simp only [List.cons_append, List.nil_append]
  refine T.seq ?_
  refine T.region ?_
  refine LW.q rfl (Qt.assign rfl) ?_
  refine LW.done ?_
  refine T.seq ?_
  refine T.region ?_
  refine LW.q rfl (Qt.move rfl) ?_
  refine LW.q rfl (Qt.move rfl) ?_
  refine LW.e rfl (Ef.call (Bf.pinned_some B g b gf n first count hand pl nl cl Fs page i x hn hn2 hx hpin) Tryz.func41 rfl rfl rfl ?_)
  rintro _ _ ⟨rfl, rfl⟩
  try simp only [List.cons_append, List.nil_append]
  refine LW.q rfl (Qt.assign rfl) ?_
  refine LW.done ?_
  refine T.seq ?_
  refine T.seq ?_
  refine T.region ?_
  refine LW.q rfl (Qt.move rfl) ?_
  first | refine LW.q rfl (Qt.eqlNil (by kernel_rfl) rfl rfl) ?_ | refine LW.q rfl (Qt.eqlNN (by kernel_rfl) rfl rfl) ?_
  refine LW.done ?_
  first | refine T.condF rfl ?_ | refine T.condPF rfl (by omega) ?_ | refine T.condBF rfl (by omega) ?_
  refine T.skip ?_
  refine T.seq ?_
  refine T.region ?_
  refine LW.q rfl (Qt.move rfl) ?_
  refine LW.q rfl (Qt.nilCheck rfl) ?_
  refine LW.q rfl (Qt.fieldAddr (off := 3) (by kernel_rfl) rfl) ?_
  refine LW.q rfl (Qt.load (v := .int .i64 x.pins) (by kernel_rfl) rfl (fm_at hx.at_ 3 (by omega))) ?_
  refine LW.q rfl (Qt.sub rfl rfl (wr64 (by omega) (by omega))) ?_
  refine LW.q rfl (Qt.nilCheck rfl) ?_
  refine LW.q rfl (Qt.fieldAddr (off := 3) (by kernel_rfl) rfl) ?_
  refine LW.e0 rfl (Ef.store1 (by kernel_rfl) rfl rfl rfl (by omega) ?_)
  rw [fm_set (y := { x with pins := x.pins - 1 }) hx.at_ 3 (by omega) _ rfl]
  refine LW.done ?_
  refine T.seq ?_
  refine T.region ?_
  refine LW.q rfl (Qt.assign rfl) ?_
  refine LW.done ?_
  refine T.ret ?_
  exact ⟨.inl rfl, _, _, res [_] rfl ⟨rvT rfl, trivial⟩, ⟨rfl, rfl⟩, Sub.any⟩
set_option maxHeartbeats 1000000 in
set_option maxRecDepth 100000 in
theorem Bf.bytes (B : Base) (S : List Assn) (g b gf n first count hand : Nat) (pl : Option Addr) (nl cl : Nat) (Fs : List Fm) (page : Int) (i : Nat) (x : Fm) (hn : Fs.length = n) (hn2 : n ≤ 4096) (hx : Fd Fs page i x) (hpin : 0 < x.pins) (hv : RdV B S (.slice x.p x.b.length x.c) (bytesV x.b)) (hb : x.b.length < 2 ^ 40) :
    Fn Tryz.prog B 32 #[.pointer (some ⟨g, 0, none⟩), .int .i64 page] (poolB g b gf n first count hand pl nl cl :: fmR gf n Fs :: S) (fun u l => ∃ p c, u = .tuple #[.slice p x.b.length c, .int .i64 0] ∧ (0 < x.b.length → ∃ g, p = some ⟨g, 0, none⟩) ∧ l = rB (.slice p x.b.length c) x.b.length x.b :: poolB g b gf n first count hand pl nl cl :: fmR gf n Fs :: S) := by
  refine Fn.enter2 17 Tryz.func32 rfl rfl (Nat.le_of_ble_eq_true rfl) (fun F => ?_)
  try simp only [List.cons_append, List.nil_append]
  refine T.seq ?_
  refine T.region ?_
  refine LW.q rfl (Qt.assign rfl) ?_
  refine LW.q rfl (Qt.assign rfl) ?_
  refine LW.done ?_
  refine T.seq ?_
  refine T.region ?_
  refine LW.q rfl (Qt.move rfl) ?_
  refine LW.q rfl (Qt.move rfl) ?_
  refine LW.e rfl (Ef.call (Bf.pinned_some B g b gf n first count hand pl nl cl Fs page i x hn hn2 hx hpin) Tryz.func41 rfl rfl rfl ?_)
  rintro _ _ ⟨rfl, rfl⟩
  try simp only [List.cons_append, List.nil_append]
  refine LW.q rfl (Qt.assign rfl) ?_
  refine LW.done ?_
  refine T.seq ?_
  refine T.seq ?_
  refine T.region ?_
  refine LW.q rfl (Qt.move rfl) ?_
  first | refine LW.q rfl (Qt.eqlNil (by kernel_rfl) rfl rfl) ?_ | refine LW.q rfl (Qt.eqlNN (by kernel_rfl) rfl rfl) ?_
  refine LW.done ?_
  first | refine T.condF rfl ?_ | refine T.condPF rfl (by omega) ?_ | refine T.condBF rfl (by omega) ?_
  refine T.skip ?_
  refine T.seq ?_
  refine T.region ?_
  refine LW.q rfl (Qt.move rfl) ?_
  refine LW.q rfl (Qt.nilCheck rfl) ?_
  refine LW.q rfl (Qt.fieldAddr (off := 1) (by kernel_rfl) rfl) ?_
  refine LW.q rfl (Qt.load (v := .slice x.p x.b.length x.c) (by kernel_rfl) rfl (fm_at hx.at_ 1 (by omega))) ?_
  refine LW.e rfl (Ef.call (Bc.clone B S (.slice x.p x.b.length x.c) x.b x.b.length rfl hv hb) Tryz.func42 rfl rfl rfl ?_)
  rintro _ _ ⟨p5, c5, rfl, hp5, rfl⟩
  try simp only [List.cons_append, List.nil_append]
  refine LW.q rfl (Qt.assign rfl) ?_
  refine LW.q rfl (Qt.assign rfl) ?_
  refine LW.done ?_
  refine T.ret ?_
  exact ⟨.inl rfl, _, _, res [_, _] rfl ⟨rvT rfl, rvT rfl, trivial⟩, ⟨_, _, rfl, hp5, rfl⟩, Sub.any⟩
set_option maxHeartbeats 1000000 in
set_option maxRecDepth 100000 in
theorem Bf.put_length (B : Base) (g b gf n first count hand : Nat) (pl : Option Addr) (nl cl : Nat) (Fs : List Fm) (page : Int) (i : Nat) (x : Fm) (hn : Fs.length = n) (hn2 : n ≤ 4096) (hx : Fd Fs page i x) (hpin : 0 < x.pins) (a : Option Addr) (m ca : Nat) (mark : Int) (hm : m ≠ 256) :
    Fn Tryz.prog B 13 #[.pointer (some ⟨g, 0, none⟩), .int .i64 page, .slice a m ca, .int .i64 mark] [poolB g b gf n first count hand pl nl cl, fmR gf n Fs] (fun u l => u = .int .i64 10 ∧ l = [poolB g b gf n first count hand pl nl cl, fmR gf n Fs]) := by
  refine Fn.enter4 37 Tryz.func13 rfl rfl (Nat.le_of_ble_eq_true rfl) (fun F => ?_)
  try simp only [List.cons_append, List.nil_append]
  refine T.seq ?_
  refine T.region ?_
  refine LW.q rfl (Qt.assign rfl) ?_
  refine LW.done ?_
  refine T.seq ?_
  refine T.region ?_
  refine LW.q rfl (Qt.move rfl) ?_
  refine LW.q rfl (Qt.move rfl) ?_
  refine LW.e rfl (Ef.call (Bf.pinned_some B g b gf n first count hand pl nl cl Fs page i x hn hn2 hx hpin) Tryz.func41 rfl rfl rfl ?_)
  rintro _ _ ⟨rfl, rfl⟩
  try simp only [List.cons_append, List.nil_append]
  refine LW.q rfl (Qt.assign rfl) ?_
  refine LW.done ?_
  refine T.seq ?_
  refine T.block ?_
  refine T.seq ?_
  refine T.region ?_
  refine LW.q rfl (Qt.move rfl) ?_
  first | refine LW.q rfl (Qt.eqlNil (by kernel_rfl) rfl rfl) ?_ | refine LW.q rfl (Qt.eqlNN (by kernel_rfl) rfl rfl) ?_
  refine LW.q rfl (Qt.assign rfl) ?_
  refine LW.done ?_
  first | refine T.condF rfl ?_ | refine T.condPF rfl (by omega) ?_ | refine T.condBF rfl (by omega) ?_
  refine T.seq ?_
  refine T.region ?_
  refine LW.q rfl (Qt.move rfl) ?_
  refine LW.q rfl (Qt.len (e := 5) (sz := 1) (by kernel_rfl) rfl) ?_
  refine LW.q rfl (Qt.neq rfl rfl) ?_
  refine LW.q rfl (Qt.assign rfl) ?_
  refine LW.done ?_
  first | refine T.condT rfl ?_ | refine T.condPT rfl (by omega) ?_ | refine T.condBT rfl (by omega) ?_
  refine T.seq ?_
  refine T.region ?_
  refine LW.q rfl (Qt.assign rfl) ?_
  refine LW.done ?_
  refine T.ret ?_
  exact ⟨.inl rfl, _, _, res [_] rfl ⟨rvT rfl, trivial⟩, ⟨rfl, rfl⟩, Sub.any⟩
set_option maxHeartbeats 2000000 in
set_option maxRecDepth 100000 in
theorem Bf.put (B : Base) (S : List Assn) (g b gf n first count hand : Nat) (pl : Option Addr) (nl cl : Nat) (Fs : List Fm) (page : Int) (i : Nat) (x : Fm) (hn : Fs.length = n) (hn2 : n ≤ 4096) (hx : Fd Fs page i x) (hpin : 0 < x.pins) (a : Option Addr) (ca : Nat) (d : List UInt8) (mark : Int) (hd : d.length = 256) (hv : RdV B S (.slice a 256 ca) (bytesV d)) :
    Fn Tryz.prog B 13 #[.pointer (some ⟨g, 0, none⟩), .int .i64 page, .slice a 256 ca, .int .i64 mark] (poolB g b gf n first count hand pl nl cl :: fmR gf n Fs :: S)
      (fun u l => ∃ p c, u = .int .i64 0 ∧ (∃ g, p = some ⟨g, 0, none⟩) ∧ l = rB (.slice p 256 c) 256 d :: poolB g b gf n first count hand pl nl cl :: fmR gf n (Fs.set i { x with mark := max x.mark mark, dirty := true, p := p, c := c, b := d }) :: S) := by
  have hi : i < Fs.length := (List.getElem?_eq_some_iff.1 hx.at_).1
  have hfl := fm_len Fs
  refine Fn.enter4 37 Tryz.func13 rfl rfl (Nat.le_of_ble_eq_true rfl) (fun F => ?_)
  try simp only [List.cons_append, List.nil_append]
  refine T.seq ?_
  refine T.region ?_
  refine LW.q rfl (Qt.assign rfl) ?_
  refine LW.done ?_
  refine T.seq ?_
  refine T.region ?_
  refine LW.q rfl (Qt.move rfl) ?_
  refine LW.q rfl (Qt.move rfl) ?_
  refine LW.e rfl (Ef.call (Bf.pinned_some B g b gf n first count hand pl nl cl Fs page i x hn hn2 hx hpin) Tryz.func41 rfl rfl rfl ?_)
  rintro _ _ ⟨rfl, rfl⟩
  try simp only [List.cons_append, List.nil_append]
  refine LW.q rfl (Qt.assign rfl) ?_
  refine LW.done ?_
  refine T.seq ?_
  refine T.block ?_
  refine T.seq ?_
  refine T.region ?_
  refine LW.q rfl (Qt.move rfl) ?_
  first | refine LW.q rfl (Qt.eqlNil (by kernel_rfl) rfl rfl) ?_ | refine LW.q rfl (Qt.eqlNN (by kernel_rfl) rfl rfl) ?_
  refine LW.q rfl (Qt.assign rfl) ?_
  refine LW.done ?_
  first | refine T.condF rfl ?_ | refine T.condPF rfl (by omega) ?_ | refine T.condBF rfl (by omega) ?_
  refine T.seq ?_
  refine T.region ?_
  refine LW.q rfl (Qt.move rfl) ?_
  refine LW.q rfl (Qt.len (e := 5) (sz := 1) (by kernel_rfl) rfl) ?_
  refine LW.q rfl (Qt.neq rfl rfl) ?_
  refine LW.q rfl (Qt.assign rfl) ?_
  refine LW.done ?_
  first | refine T.condF rfl ?_ | refine T.condPF rfl (by omega) ?_ | refine T.condBF rfl (by omega) ?_
  refine T.skip ?_
  refine T.seq ?_
  refine T.region ?_
  refine LW.q rfl (Qt.move rfl) ?_
  refine LW.q rfl (Qt.move rfl) ?_
  refine LW.q rfl (Qt.move rfl) ?_
  refine LW.e rfl (Ef.call (Bc.clone B S (.slice a 256 ca) d 256 hd hv (by omega)) Tryz.func42 rfl rfl rfl ?_)
  rintro _ _ ⟨p5, c5, rfl, hp5, rfl⟩
  try simp only [List.cons_append, List.nil_append]
  have hg5 := hp5 (by omega)
  refine LW.q rfl (Qt.nilCheck rfl) ?_
  refine LW.q rfl (Qt.fieldAddr (off := 1) (by kernel_rfl) rfl) ?_
  refine LW.e0 rfl (Ef.store1 (by kernel_rfl) rfl rfl rfl (by omega) ?_)
  rw [fm_set (y := { x with p := p5, c := c5, b := d }) hx.at_ 1 (by omega) _ (by simp only [fmC, List.set_cons_zero, List.set_cons_succ, hd])]
  have h2 : (Fs.set i { x with p := p5, c := c5, b := d })[i]? = some { x with p := p5, c := c5, b := d } := by rw [List.getElem?_set_self hi]
  have hfl2 := fm_len (Fs.set i { x with p := p5, c := c5, b := d })
  rw [List.length_set] at hfl2
  refine LW.q rfl (Qt.nilCheck rfl) ?_
  refine LW.q rfl (Qt.fieldAddr (off := 4) (by kernel_rfl) rfl) ?_
  refine LW.e0 rfl (Ef.store1 (by kernel_rfl) rfl rfl rfl (by omega) ?_)
  rw [fm_set (y := { x with p := p5, c := c5, b := d, dirty := true }) h2 4 (by omega) _ rfl, List.set_set]
  have h3 : (Fs.set i { x with p := p5, c := c5, b := d, dirty := true })[i]? = some { x with p := p5, c := c5, b := d, dirty := true } := by rw [List.getElem?_set_self hi]
  have hfl3 := fm_len (Fs.set i { x with p := p5, c := c5, b := d, dirty := true })
  rw [List.length_set] at hfl3
  refine LW.done ?_
  refine T.seq ?_
  refine T.region ?_
  refine LW.q rfl (Qt.move rfl) ?_
  refine LW.q rfl (Qt.move rfl) ?_
  refine LW.q rfl (Qt.nilCheck rfl) ?_
  refine LW.q rfl (Qt.fieldAddr (off := 2) (by kernel_rfl) rfl) ?_
  refine LW.q rfl (Qt.load (v := .int .i64 x.mark) (by kernel_rfl) rfl (fm_at h3 2 (by omega))) ?_
  refine LW.q rfl (Qt.move rfl) ?_
  refine LW.q rfl (Qt.max rfl rfl) ?_
  refine LW.q rfl (Qt.nilCheck rfl) ?_
  refine LW.q rfl (Qt.fieldAddr (off := 2) (by kernel_rfl) rfl) ?_
  refine LW.e0 rfl (Ef.store1 (by kernel_rfl) rfl rfl rfl (by omega) ?_)
  rw [fm_set (y := { x with p := p5, c := c5, b := d, dirty := true, mark := max x.mark mark }) h3 2 (by omega) _ rfl, List.set_set]
  refine LW.done ?_
  refine T.seq ?_
  refine T.region ?_
  refine LW.q rfl (Qt.assign rfl) ?_
  refine LW.done ?_
  refine T.ret ?_
  exact ⟨.inl rfl, _, _, res [_] rfl ⟨rvT rfl, trivial⟩, ⟨p5, c5, rfl, hg5, rfl⟩, Sub.any⟩
set_option maxHeartbeats 1000000 in
set_option maxRecDepth 100000 in
theorem Bf.frames (B : Base) (g b gf n first count hand : Nat) (pl : Option Addr) (nl cl : Nat) (Fs : List Fm) (hn : Fs.length = n) (hn2 : n ≤ 4096) :
  Fn Tryz.prog B 17 #[.pointer (some ⟨g, 0, none⟩)] [poolB g b gf n first count hand pl nl cl, fmR gf n Fs] (fun u l => ∃ p c, u = .slice p n c ∧ l = [row (.slice p n c) 3 1 n (Fs.map fun x => Value.int .i64 x.page), poolB g b gf n first count hand pl nl cl, fmR gf n Fs]) := by
 refine Fn.enter1 22 Tryz.func17 rfl rfl (Nat.le_of_ble_eq_true rfl) (fun F => ?_)
 try simp only [List.cons_append, List.nil_append]
 refine T.seq ?_
 refine T.region ?_
 refine LW.q rfl (Qt.assign rfl) ?_
 refine LW.done ?_
 refine T.seq ?_
 refine T.region ?_
 refine LW.q rfl (Qt.assign rfl) ?_
 refine LW.done ?_
 refine T.seq ?_
 refine T.seq ?_
 refine T.region ?_
 refine LW.q rfl (Qt.move rfl) ?_
 refine LW.q rfl (Qt.nilCheck rfl) ?_
 refine LW.q rfl (Qt.fieldAddr (off := 3) (by kernel_rfl) rfl) ?_
 first | refine LW.q rfl (Qt.load (by kernel_rfl) rfl rfl) ?_ | refine LW.q rfl (Qt.load (by kernel_rfl) rfl (map_at _ _ _ (by omega))) ?_ | refine LW.q rfl (Qt.load (by kernel_rfl) rfl (flat_cell0 _ _ _ (by intros; rfl) _ (by omega) (by rfl))) ?_ | refine LW.q rfl (Qt.load (by kernel_rfl) rfl (flat_cell _ _ _ (by intros; rfl) _ _ (by omega) (by rfl))) ?_ | refine LW.q rfl (Qt.load (by kernel_rfl) rfl (bytes_at _ _ (by omega))) ?_
 refine LW.q rfl (Qt.len (e := 103) (sz := 6) (by kernel_rfl) rfl) ?_
 refine LW.q rfl (Qt.move rfl) ?_
 refine LW.done ?_
 refine T.block ?_
 refine T.conv (l' := row (.slice none 0 0) 3 1 0 ((Fs.take 0).map fun x => Value.int .i64 x.page) :: poolB g b gf n first count hand pl nl cl :: fmR gf n Fs :: F) (fun w ho => ho.row_nil _ _) ?_
 refine T.loop (fun mz fz lz => ∃ (f0 : Fr) (k : Nat) (p : Option Addr) (c : Nat), (k ≤ n) ∧ mz = n - k ∧ fz = (upd (upd (upd (upd (upd f0 0 (.pointer (some ⟨g, 0, none⟩))) 3 (.slice p k c)) 9 (.slice (some ⟨gf, 0, none⟩) n n)) 11 (.int .i64 k)) 10 (.int .i64 n)) ∧ lz = row (.slice p k c) 3 1 k ((Fs.take k).map fun x => Value.int .i64 x.page) :: poolB g b gf n first count hand pl nl cl :: fmR gf n Fs :: F) ?_ ?_
 · refine ⟨_, _, ⟨_, 0, none, 0, Nat.zero_le _, rfl, (updS rfl (updS rfl (updS rfl (updS rfl (updS rfl rfl))))), rfl⟩, Sub.any⟩
 ·
  rintro mz fz lz ⟨f0, k, p, c, hk, hmz, rfl, rfl⟩
  subst mz
  try simp only [List.cons_append, List.nil_append]
  refine T.seq ?_
  refine T.region ?_
  refine LW.q rfl (Qt.lss rfl rfl) ?_
  refine LW.done ?_
  refine T.seq ?_
  refine T.condP rfl (fun hlt => ?_) (fun hlt => ?_)
  ·
   obtain ⟨y, hy⟩ : ∃ y, Fs[k]? = some y := ⟨_, List.getElem?_eq_getElem (by omega)⟩
   refine T.skip ?_
   refine T.seq ?_
   refine T.block ?_
   refine T.seq ?_
   refine T.region ?_
   refine LW.q rfl (Qt.index _ (e := 103) (sz := 6) (by kernel_rfl) rfl rfl rfl (by omega)) ?_
   refine LW.q rfl (Qt.loadAgg (fmC y) (by kernel_rfl) rfl (rdl_of fun j u hu => by have := fm_at hy j (by have := (List.getElem?_eq_some_iff.1 hu).1; simpa using this); rw [this]; exact hu)) ?_
   refine LW.e rfl (Ef.alloc [.int .i64 0, .slice none 0 0, .int .i64 0, .int .i64 0, .bool false, .bool false] (by unfold zeroB; kernel_rfl) ?_)
   intro g5
   refine LW.e0 rfl (Ef.store [_, _, _, _, _, _] (by kernel_rfl) rfl rfl rfl rfl (by simp) ?_)
   try simp only [splice, List.length_cons, List.length_nil, List.drop_succ_cons, List.cons_append, List.take_succ_cons, List.take_zero, List.drop_zero, List.nil_append, List.append_nil]
   refine LW.done ?_
   refine T.region ?_
   refine LW.q rfl (Qt.move rfl) ?_
   refine LW.q rfl (Qt.fieldAddr0 (by kernel_rfl) rfl) ?_
   first | refine LW.q rfl (Qt.load (by kernel_rfl) rfl rfl) ?_ | refine LW.q rfl (Qt.load (by kernel_rfl) rfl (map_at _ _ _ (by omega))) ?_ | refine LW.q rfl (Qt.load (by kernel_rfl) rfl (flat_cell0 _ _ _ (by intros; rfl) _ (by omega) (by rfl))) ?_ | refine LW.q rfl (Qt.load (by kernel_rfl) rfl (flat_cell _ _ _ (by intros; rfl) _ _ (by omega) (by rfl))) ?_ | refine LW.q rfl (Qt.load (by kernel_rfl) rfl (bytes_at _ _ (by omega))) ?_
   refine LW.e rfl (Ef.one [_] (e := 3) (sz := 1) (by kernel_rfl) ⟨.int .i64 0, by kernel_rfl, rfl⟩ rfl rfl rfl (by omega) (by omega) ?_)
   intro g18
   refine LW.e rfl (Ef.append Bf.elemI rfl rfl (SrcOf.blk (by kernel_rfl) rfl (by simp [Value.oneCell'])) (by unfold maxLen; omega) (by omega) ?_)
   rintro p2 c2 hp2
   try simp only [List.cons_append, List.nil_append]
   rw [show (Fs.take k).map (fun x => Value.int .i64 x.page) ++ [Value.int .i64 y.page] = (Fs.take (k + 1)).map (fun x => Value.int .i64 x.page) by rw [List.take_add_one, hy]; simp]
   refine LW.q rfl (Qt.assign rfl) ?_
   refine LW.done ?_
   refine T.region ?_
   refine LW.q rfl (Qt.add rfl rfl (wr64 (by omega) (by omega))) ?_
   refine LW.q rfl (Qt.move rfl) ?_
   refine LW.done ?_
   refine ⟨_, ?_, _, ⟨_, k + 1, p2, c2, by omega, rfl, (updS rfl (updS rfl (updS rfl (updS rfl (updS rfl rfl))))), rfl⟩, Sub.any⟩
   first | omega | (simp; omega)
  ·
   obtain rfl : k = n := by omega
   rw [← hn, List.take_length, hn]
   refine T.exit ?_
   refine T.seq ?_
   refine T.region ?_
   refine LW.q rfl (Qt.move rfl) ?_
   refine LW.q rfl (Qt.assign rfl) ?_
   refine LW.done ?_
   refine T.ret ?_
   exact ⟨.inl rfl, _, _, res [_] rfl ⟨rvT rfl, trivial⟩, ⟨_, _, rfl, rfl⟩, Sub.any⟩
theorem Bf.pages (B : Base) (g b gf n first count hand : Nat) (pl : Option Addr) (nl cl : Nat) :
    Fn Tryz.prog B 18 #[.pointer (some ⟨g, 0, none⟩)] [poolB g b gf n first count hand pl nl cl] (fun u l => u = .int .i64 count ∧ l = [poolB g b gf n first count hand pl nl cl]) := by
  refine Fn.enter1 7 Tryz.func18 rfl rfl (Nat.le_of_ble_eq_true rfl) (fun F => ?_)
  try simp only [List.cons_append, List.nil_append]
  refine T.seq ?_
  refine T.region ?_
  refine LW.q rfl (Qt.assign rfl) ?_
  refine LW.done ?_
  refine T.seq ?_
  refine T.region ?_
  refine LW.q rfl (Qt.move rfl) ?_
  refine LW.q rfl (Qt.nilCheck rfl) ?_
  refine LW.q rfl (Qt.fieldAddr (off := 2) (by kernel_rfl) rfl) ?_
  first | refine LW.q rfl (Qt.load (by kernel_rfl) rfl rfl) ?_ | refine LW.q rfl (Qt.load (by kernel_rfl) rfl (map_at _ _ _ (by omega))) ?_ | refine LW.q rfl (Qt.load (by kernel_rfl) rfl (flat_cell0 _ _ _ (by intros; rfl) _ (by omega) (by rfl))) ?_ | refine LW.q rfl (Qt.load (by kernel_rfl) rfl (flat_cell _ _ _ (by intros; rfl) _ _ (by omega) (by rfl))) ?_ | refine LW.q rfl (Qt.load (by kernel_rfl) rfl (bytes_at _ _ (by omega))) ?_
  refine LW.q rfl (Qt.assign rfl) ?_
  refine LW.done ?_
  refine T.ret ?_
  exact ⟨.inl rfl, _, _, res [_] rfl ⟨rvT rfl, trivial⟩, ⟨rfl, rfl⟩, Sub.any⟩
end Go.Proofs.YtegohgaccmkigaaGreatDoor
