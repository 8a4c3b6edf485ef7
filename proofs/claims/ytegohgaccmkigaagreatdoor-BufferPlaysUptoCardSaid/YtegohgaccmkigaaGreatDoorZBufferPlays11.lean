/- The texts RlD, one behind the other: what the law leans on. Conditions: as each theorem says. -/
import Derived.Test.YtegohgaccmkigaaGreatDoorZBufferPlays10
/- The document's log (annalsref05): Open. Conditions: sizes. -/
set_option linter.unusedSimpArgs false
set_option linter.unusedVariables false
namespace Go.Proofs.YtegohgaccmkigaaGreatDoor
open Go.RowKit

theorem Rl.nilR {B : Base} {w : World} {l : List Assn} (h : Own B w l) : Own B w (drecR none 0 0 [] :: l) := h.row_nil _ _
/-- What the document's Open leaves. -/
def ROpenW (first count N : Nat) (D : DD) (v : Value) (l : List Assn) : Prop := ∃ p a k s R q c, scanW (allD D first count) (count * 256 + 1) 0 0 = (k, s, R) ∧
  v = .tuple #[.agg #[.slice p N a, .slice none 0 0], logV ⟨first, count, (allD D first count).take k, s, k⟩, .slice q R.length c, .int .i64 0] ∧
  l = [rS (.slice p N a) N (wipeD ⟨first, count, (allD D first count).take k, s, k⟩ (allD D first count) D (k / 256) (count - k / 256)).sync.secs, rW (.slice none 0 0) 0 [], drecR q R.length c R]
theorem ROpenW.mk {first count N k m nq cq a : Nat} {D D' : DD} {s : UInt32} {st al : List UInt8} {R : List (Nat × List UInt8)} {p q : Option Addr} {v : Value} {l : List Assn} {S : List (List UInt8)} (hal : al.length = count * 256) (hall : allD D first count = al) (hst : st = al.take k) (hstl : st.length = k) (hfin : scanW al (count * 256 + 1) 0 0 = (k, s, R)) (hnq : nq = R.length)
    (hpl : D'.pend.length = m) (hwi : docWipe ⟨first, count, st, s, st.length⟩ al D' count 0 = docWipe ⟨first, count, st, s, st.length⟩ al D 0 count) (hS : S = D'.lays (fun _ => some 256) m)
    (hv : v = .tuple #[.agg #[.slice p N a, .slice none 0 0], .agg #[.string (strOf st), .int .u32 s.toNat, .int .i64 st.length, .int .i64 first, .int .i64 count], .slice q nq cq, .int .i64 0]) (hl : l = [rS (.slice p N a) N S, rW (.slice none 0 0) 0 [], drecR q nq cq R]) : ROpenW first count N D v l := by
  subst hnq
  rw [hstl] at hwi hv
  subst hst
  have hk : k ≤ count * 256 := by rw [← hstl, List.length_take]; omega
  have hD' : D' = docWipe ⟨first, count, al.take k, s, k⟩ al D 0 count := hwi
  rw [docWipe_eq D hal hk] at hD'
  subst hD'
  subst hall
  exact ⟨p, a, k, s, R, q, cq, hfin, hv, by rw [hl, hS, ← hpl]; rfl⟩

set_option maxHeartbeats 8000000 in
set_option maxRecDepth 100000 in
theorem Rl.open (B : Base) (D : DD) (p q : Option Addr) (a c N m : Nat) (hN : D.secs.length = N) (hm : D.pend.length = m) (hD : D.Ok) (hroom : m + 4096 < 2 ^ 32) (first count : Nat) (i j : Int) (hi : i = first) (hj : j = count) (h1 : 1 ≤ count) (hfc : first + count ≤ N) :
  Fn Tryz.prog B 8 #[.agg #[.slice p N a, .slice q m c], .int .i64 i, .int .i64 j] [rS (.slice p N a) N D.secs, rW (.slice q m c) m D.pend] (ROpenW first count N D) := by
 have hN2 : N ≤ 4096 := by rw [← hN]; exact hD.max
 subst hi
 subst hj
 refine Fn.enter3 155 Tryz.func8 rfl rfl (Nat.le_of_ble_eq_true rfl) (fun F => ?_)
 try simp only [List.cons_append, List.nil_append]
 refine T.seq ?_
 refine T.region ?_
 refine LW.e rfl (Ef.box [_, _] rfl rfl ?_)
 intro g3
 refine LW.e rfl (Ef.alloc [.slice none 0 0, .slice none 0 0] (by unfold zeroB; kernel_rfl) ?_)
 intro g6
 refine LW.e rfl (Ef.alloc [.string .empty, .int .u32 0, .int .i64 0, .int .i64 0, .int .i64 0] (by unfold zeroB; kernel_rfl) ?_)
 intro g7
 refine LW.q rfl (Qt.assign rfl) ?_
 refine LW.q rfl (Qt.assign rfl) ?_
 refine LW.done ?_
 refine T.seq ?_
 refine T.seq ?_
 refine T.region ?_
 refine LW.q rfl (Qt.move rfl) ?_
 refine LW.q rfl (Qt.lss rfl rfl) ?_
 refine LW.q rfl (Qt.move rfl) ?_
 first | refine LW.gF (t := 23) rfl rfl ?_ | refine LW.gF (t := 23) rfl (decide_eq_false (by omega)) ?_ | refine LW.gF (t := 23) rfl (by omega) ?_
 refine LW.q rfl (Qt.move rfl) ?_
 refine LW.q rfl (Qt.lss rfl rfl) ?_
 refine LW.q rfl (Qt.pick rfl rfl) ?_
 refine LW.q rfl (Qt.move rfl) ?_
 first | refine LW.gF (t := 27) rfl rfl ?_ | refine LW.gF (t := 27) rfl (decide_eq_false (by omega)) ?_ | refine LW.gF (t := 27) rfl (by omega) ?_
 refine LW.q rfl (Qt.move rfl) ?_
 refine LW.q rfl (Qt.fieldAddr0 (by kernel_rfl) rfl) ?_
 first | refine LW.q rfl (Qt.load (by kernel_rfl) rfl rfl) ?_ | refine LW.q rfl (Qt.load (by kernel_rfl) rfl (map_at _ _ _ (by omega))) ?_ | refine LW.q rfl (Qt.load (by kernel_rfl) rfl (flat_cell0 _ _ _ (by intros; rfl) _ (by omega) (by rfl))) ?_ | refine LW.q rfl (Qt.load (by kernel_rfl) rfl (flat_cell _ _ _ (by intros; rfl) _ _ (by omega) (by rfl))) ?_ | refine LW.q rfl (Qt.load (by kernel_rfl) rfl (bytes_at _ _ (by omega))) ?_
 refine LW.q rfl (Qt.len (e := 9) (sz := 1) (by kernel_rfl) rfl) ?_
 refine LW.q rfl (Qt.gtr rfl rfl) ?_
 refine LW.q rfl (Qt.pick rfl rfl) ?_
 refine LW.q rfl (Qt.move rfl) ?_
 first | refine LW.gF (t := 34) rfl rfl ?_ | refine LW.gF (t := 34) rfl (decide_eq_false (by omega)) ?_ | refine LW.gF (t := 34) rfl (by omega) ?_
 refine LW.q rfl (Qt.move rfl) ?_
 refine LW.q rfl (Qt.fieldAddr0 (by kernel_rfl) rfl) ?_
 first | refine LW.q rfl (Qt.load (by kernel_rfl) rfl rfl) ?_ | refine LW.q rfl (Qt.load (by kernel_rfl) rfl (map_at _ _ _ (by omega))) ?_ | refine LW.q rfl (Qt.load (by kernel_rfl) rfl (flat_cell0 _ _ _ (by intros; rfl) _ (by omega) (by rfl))) ?_ | refine LW.q rfl (Qt.load (by kernel_rfl) rfl (flat_cell _ _ _ (by intros; rfl) _ _ (by omega) (by rfl))) ?_ | refine LW.q rfl (Qt.load (by kernel_rfl) rfl (bytes_at _ _ (by omega))) ?_
 refine LW.q rfl (Qt.len (e := 9) (sz := 1) (by kernel_rfl) rfl) ?_
 refine LW.q rfl (Qt.move rfl) ?_
 refine LW.q rfl (Qt.sub rfl rfl (wr64 (by omega) (by omega))) ?_
 refine LW.q rfl (Qt.gtr rfl rfl) ?_
 refine LW.q rfl (Qt.pick rfl rfl) ?_
 refine LW.done ?_
 first | refine T.condF rfl ?_ | refine T.condPF rfl (by omega) ?_ | refine T.condBF rfl (by omega) ?_
 refine T.skip ?_
 refine T.seq ?_
 refine T.region ?_
 refine LW.q rfl (Qt.assign rfl) ?_
 refine LW.done ?_
 refine T.seq ?_
 refine T.seq ?_
 refine T.region ?_
 refine LW.q rfl (Qt.assign rfl) ?_
 refine LW.done ?_
 refine T.block ?_
 refine T.loop (fun mz fz lz => ∃ (f0 : Fr) (n : Nat) (al : List UInt8), (n ≤ count ∧ al.length = n * 256 ∧ allD D first n = al) ∧ mz = count - n ∧ fz = (upd (upd (upd (upd (upd (upd (upd f0 1 (.int .i64 first)) 2 (.int .i64 count)) 3 (.pointer (some ⟨g3, 0, none⟩))) 6 (.pointer (some ⟨g6, 0, none⟩))) 7 (.pointer (some ⟨g7, 0, none⟩))) 10 (.string (strOf al))) 11 (.int .i64 n)) ∧ lz = rS (.slice p N a) N D.secs :: rW (.slice q m c) m D.pend :: blk g3 [.slice p N a, .slice q m c] 30 :: blk g6 [.slice none 0 0, .slice none 0 0] 30 :: blk g7 [.string ByteArray.empty, .int .u32 0, .int .i64 0, .int .i64 0, .int .i64 0] 35 :: F) ?_ ?_
 · refine ⟨_, _, ⟨_, 0, [], ⟨Nat.zero_le _, rfl, rfl⟩, rfl, (updS rfl (updS rfl (updS rfl (updS rfl (updS rfl (updS rfl (updS rfl rfl))))))), rfl⟩, Sub.any⟩
 ·
  rintro mz fz lz ⟨f0, n, al, ⟨hn, hal, hall⟩, hmz, rfl, rfl⟩
  subst mz
  try simp only [List.cons_append, List.nil_append]
  refine T.seq ?_
  refine T.seq ?_
  refine T.region ?_
  refine LW.q rfl (Qt.move rfl) ?_
  refine LW.q rfl (Qt.move rfl) ?_
  refine LW.q rfl (Qt.lss rfl rfl) ?_
  refine LW.done ?_
  refine T.condP rfl (fun hlt => ?_) (fun hlt => ?_)
  ·
   have hrl := hD.rd (first + n) (by omega)
   refine T.skip ?_
   refine T.seq ?_
   refine T.block ?_
   refine T.seq ?_
   refine T.region ?_
   first | refine LW.q rfl (Qt.loadAgg [_, _] (by kernel_rfl) rfl ⟨rfl, rfl, trivial⟩) ?_ | refine LW.q rfl (Qt.loadAgg [_, _] (by kernel_rfl) rfl (by exact rdl_flat _ _ _ (by intros; rfl) _ (by omega))) ?_
   refine LW.q rfl (Qt.move rfl) ?_
   refine LW.q rfl (Qt.move rfl) ?_
   refine LW.q rfl (Qt.add rfl rfl (wr64 (by omega) (by omega))) ?_
   refine LW.e rfl (Ef.call (Rf.read B p q a c N m (first + n) (first + n) (by omega) D.secs D.pend (by omega) (by omega) (by omega)) Tryz.func23 rfl rfl rfl ?_)
   rintro _ _ ⟨rfl, rfl⟩
   try simp only [List.cons_append, List.nil_append]
   refine LW.q rfl (Qt.move rfl) ?_
   refine LW.q rfl (Qt.extract rfl rfl) ?_
   refine LW.q rfl (Qt.extract rfl rfl) ?_
   refine LW.q rfl (Qt.assign rfl) ?_
   refine LW.q rfl (Qt.assign rfl) ?_
   refine LW.done ?_
   refine T.region ?_
   refine LW.q rfl (Qt.move rfl) ?_
   refine LW.q rfl (Qt.move rfl) ?_
   refine LW.q rfl (Qt.addS rfl rfl (by show al.length + (D.read (first + n)).length ≤ _; omega)) ?_
   refine LW.q rfl (Qt.assign rfl) ?_
   refine LW.done ?_
   refine T.region ?_
   refine LW.q rfl (Qt.move rfl) ?_
   refine LW.q rfl (Qt.add rfl rfl (wr64 (by omega) (by omega))) ?_
   refine LW.q rfl (Qt.assign rfl) ?_
   refine LW.done ?_
   refine ⟨_, ?_, _, ⟨_, n + 1, al ++ D.read (first + n), ⟨by omega, by rw [List.length_append, hal, hrl]; omega, by rw [← allD_snoc, hall]⟩, rfl, (updS rfl (updS rfl (updS rfl (updS rfl (updS rfl (updS rfl (updS rfl rfl))))))), rfl⟩, Sub.any⟩
   first | omega | (simp; omega)
  ·
   obtain rfl : n = count := by omega
   refine T.conv (fun w ho => Rl.nilR ho) ?_
   refine T.exit ?_
   refine T.seq ?_
   refine T.region ?_
   refine LW.q rfl (Qt.move rfl) ?_
   refine LW.q rfl (Qt.move rfl) ?_
   refine LW.q rfl (Qt.build [(0, 1), (1, 1), (2, 1), (3, 1), (4, 1)] [.string .empty, .int .u32 0, .int .i64 0, .int .i64 0, .int .i64 0] [_, _, _, _, _] [(3, _), (4, _)] (by kernel_rfl) (by unfold zeroB; kernel_rfl) rfl rfl) ?_
   refine LW.e rfl (Ef.alloc [.string .empty, .int .u32 0, .int .i64 0, .int .i64 0, .int .i64 0] (by unfold zeroB; kernel_rfl) ?_)
   intro g14
   refine LW.e0 rfl (Ef.store [_, _, _, _, _] (by kernel_rfl) rfl rfl rfl rfl (by simp) ?_)
   try simp only [splice, List.length_cons, List.length_nil, List.drop_succ_cons, List.cons_append, List.take_succ_cons, List.take_zero, List.drop_zero, List.nil_append, List.append_nil]
   refine LW.conv (l' := blk g14 [.string (strOf []), .int .u32 (UInt32.toNat 0), .int .i64 (0 : Nat), .int .i64 first, .int .i64 n] 35 :: drecR none 0 0 [] :: rS (.slice p N a) N D.secs :: rW (.slice q m c) m D.pend :: blk g3 [.slice p N a, .slice q m c] 30 :: blk g6 [.slice none 0 0, .slice none 0 0] 30 :: blk g7 [.string ByteArray.empty, .int .u32 0, .int .i64 0, .int .i64 0, .int .i64 0] 35 :: F) (fun w ho => ho) ?_
   refine LW.done ?_
   refine T.seq ?_
   refine T.region ?_
   refine LW.q rfl (Qt.assign rfl) ?_
   refine LW.done ?_
   refine T.seq ?_
   refine T.block ?_
   refine T.loop (fun mz fz lz => ∃ (f0 : Fr) (k : Nat) (st : List UInt8) (s : UInt32) (R : List (Nat × List UInt8)) (q2 : Option Addr) (cq nq : Nat), (k ≤ n * 256 ∧ st = al.take k ∧ st.length = k ∧ nq = R.length ∧ nq ≤ k ∧ ScanG al (n * 256) k s R) ∧ mz = n * 256 - k ∧ fz = (upd (upd (upd (upd (upd (upd (upd (upd f0 1 (.int .i64 first)) 2 (.int .i64 n)) 3 (.pointer (some ⟨g3, 0, none⟩))) 6 (.pointer (some ⟨g6, 0, none⟩))) 7 (.pointer (some ⟨g7, 0, none⟩))) 10 (.string (strOf al))) 14 (.pointer (some ⟨g14, 0, none⟩))) 15 (.slice q2 nq cq)) ∧ lz = drecR q2 nq cq R :: rS (.slice p N a) N D.secs :: rW (.slice q m c) m D.pend :: blk g3 [.slice p N a, .slice q m c] 30 :: blk g6 [.slice none 0 0, .slice none 0 0] 30 :: blk g7 [.string ByteArray.empty, .int .u32 0, .int .i64 0, .int .i64 0, .int .i64 0] 35 :: blk g14 [.string (strOf st), .int .u32 s.toNat, .int .i64 0, .int .i64 first, .int .i64 n] 35 :: F) ?_ ?_
   · refine ⟨_, _, ⟨_, 0, [], 0, [], none, 0, 0, ⟨Nat.zero_le _, rfl, rfl, rfl, Nat.le_refl _, ScanG.init al _⟩, rfl, (updS rfl (updS rfl (updS rfl (updS rfl (updS rfl (updS rfl (updS rfl (updS rfl rfl)))))))), rfl⟩, Sub.any⟩
   ·
    rintro mz fz lz ⟨f0, k, st, s, R, q2, cq, nq, ⟨hk, hst, hstl, hnq, hnk, hsc⟩, hmz, rfl, rfl⟩
    subst mz
    try simp only [List.cons_append, List.nil_append]
    have hdl : (al.drop k).length = al.length - k := List.length_drop
    refine T.block ?_
    refine T.seq ?_
    refine T.region ?_
    refine LW.q rfl (Qt.move rfl) ?_
    refine LW.q rfl (Qt.fieldAddr0 (by kernel_rfl) rfl) ?_
    first | refine LW.q rfl (Qt.load (by kernel_rfl) rfl rfl) ?_ | refine LW.q rfl (Qt.load (by kernel_rfl) rfl (map_at _ _ _ (by omega))) ?_ | refine LW.q rfl (Qt.load (by kernel_rfl) rfl (flat_cell0 _ _ _ (by intros; rfl) _ (by omega) (by rfl))) ?_ | refine LW.q rfl (Qt.load (by kernel_rfl) rfl (flat_cell _ _ _ (by intros; rfl) _ _ (by omega) (by rfl))) ?_ | refine LW.q rfl (Qt.load (by kernel_rfl) rfl (bytes_at _ _ (by omega))) ?_
    first | refine LW.q rfl (Qt.lenSt (by kernel_rfl) rfl) ?_ | refine LW.q rfl (Qt.lenS (by kernel_rfl) rfl) ?_
    refine LW.q rfl (Qt.sliceS_sn k (by kernel_rfl) rfl rfl (by show (st.length : Int) = k; omega) (by omega)) ?_
    refine LW.q rfl (Qt.assign rfl) ?_
    refine LW.done ?_
    refine T.seq ?_
    refine T.seq ?_
    refine T.region ?_
    refine LW.q rfl (Qt.move rfl) ?_
    first | refine LW.q rfl (Qt.lenSt (by kernel_rfl) rfl) ?_ | refine LW.q rfl (Qt.lenS (by kernel_rfl) rfl) ?_
    refine LW.q rfl (Qt.lss rfl rfl) ?_
    refine LW.done ?_
    refine T.condP rfl (fun h8 => ?_) (fun h8 => ?_)
    ·
     have hfin := hsc.stop (takeRec_short (by omega))
     have hkl : st.length ≤ n * 256 := by omega
     refine T.exit ?_
     refine T.seq ?_
     refine T.region ?_
     refine LW.q rfl (Qt.fieldAddr0 (by kernel_rfl) rfl) ?_
     first | refine LW.q rfl (Qt.load (by kernel_rfl) rfl rfl) ?_ | refine LW.q rfl (Qt.load (by kernel_rfl) rfl (map_at _ _ _ (by omega))) ?_ | refine LW.q rfl (Qt.load (by kernel_rfl) rfl (flat_cell0 _ _ _ (by intros; rfl) _ (by omega) (by rfl))) ?_ | refine LW.q rfl (Qt.load (by kernel_rfl) rfl (flat_cell _ _ _ (by intros; rfl) _ _ (by omega) (by rfl))) ?_ | refine LW.q rfl (Qt.load (by kernel_rfl) rfl (bytes_at _ _ (by omega))) ?_
     first | refine LW.q rfl (Qt.lenSt (by kernel_rfl) rfl) ?_ | refine LW.q rfl (Qt.lenS (by kernel_rfl) rfl) ?_
     refine LW.q rfl (Qt.fieldAddr (off := 2) (by kernel_rfl) rfl) ?_
     refine LW.e0 rfl (Ef.store1 (by kernel_rfl) rfl rfl rfl (by first | (simp; done) | (simp; omega)) ?_)
     try simp only [List.set_cons_zero, List.set_cons_succ]
     refine LW.done ?_
     refine T.seq ?_
     refine T.seq ?_
     refine T.region ?_
     refine LW.q rfl (Qt.assign rfl) ?_
     refine LW.done ?_
     refine T.block ?_
     refine T.loop (fun mz fz lz => ∃ (f0 : Fr) (i : Nat) (D' : DD) (p q : Option Addr) (a c m' : Nat), (i ≤ n ∧ D'.Ok ∧ D'.secs.length = N ∧ D'.pend.length = m' ∧ m' ≤ m + i ∧ docWipe ⟨first, n, st, s, st.length⟩ al D' i (n - i) = docWipe ⟨first, n, st, s, st.length⟩ al D 0 n) ∧ mz = n - i ∧ fz = (upd (upd (upd (upd (upd (upd (upd (upd (upd f0 1 (.int .i64 first)) 2 (.int .i64 n)) 3 (.pointer (some ⟨g3, 0, none⟩))) 6 (.pointer (some ⟨g6, 0, none⟩))) 7 (.pointer (some ⟨g7, 0, none⟩))) 10 (.string (strOf al))) 14 (.pointer (some ⟨g14, 0, none⟩))) 15 (.slice q2 nq cq)) 20 (.int .i64 i)) ∧ lz = drecR q2 nq cq R :: rS (.slice p N a) N D'.secs :: rW (.slice q m' c) m' D'.pend :: blk g3 [.slice p N a, .slice q m' c] 30 :: blk g6 [.slice none 0 0, .slice none 0 0] 30 :: blk g7 [.string ByteArray.empty, .int .u32 0, .int .i64 0, .int .i64 0, .int .i64 0] 35 :: blk g14 [.string (strOf st), .int .u32 s.toNat, .int .i64 st.length, .int .i64 first, .int .i64 n] 35 :: F) ?_ ?_
     · refine ⟨_, _, ⟨_, 0, D, p, q, a, c, m, ⟨Nat.zero_le _, hD, hN, hm, by omega, by rw [Nat.sub_zero]⟩, rfl, (updS rfl (updS rfl (updS rfl (updS rfl (updS rfl (updS rfl (updS rfl (updS rfl (updS rfl rfl))))))))), rfl⟩, Sub.any⟩
     ·
      rintro mz fz lz ⟨f0, i, D', p, q, a, c, m', ⟨hi, ho, hsl, hpl, hpm, hwi⟩, hmz, rfl, rfl⟩
      subst mz
      try simp only [List.cons_append, List.nil_append]
      refine T.seq ?_
      refine T.seq ?_
      refine T.region ?_
      refine LW.q rfl (Qt.move rfl) ?_
      refine LW.q rfl (Qt.move rfl) ?_
      refine LW.q rfl (Qt.lss rfl rfl) ?_
      refine LW.done ?_
      refine T.condP rfl (fun hlt3 => ?_) (fun hlt3 => ?_)
      ·
       have hstep : docWipe ⟨first, n, st, s, st.length⟩ al D' i (n - i) = docWipe ⟨first, n, st, s, st.length⟩ al (if (al.take ((i + 1) * 256)).drop (i * 256) = secW st i then D' else D'.write (first + i) (secW st i)) (i + 1) (n - (i + 1)) := by rw [show n - i = (n - (i + 1)) + 1 by omega, docWipe]
       refine T.skip ?_
       refine T.seq ?_
       refine T.block ?_
       refine T.seq ?_
       refine T.drawBl 11 none (by kernel_rfl) (Nat.le_of_ble_eq_true rfl) (by kernel_rfl) ?_
       refine RW.q 0 rfl rfl (by kernel_rfl) Sub.any (Qt.move rfl) ?_
       refine RW.q 1 rfl rfl (by kernel_rfl) Sub.any (Qt.move rfl) ?_
       refine RW.q 2 rfl rfl (by kernel_rfl) Sub.any (Qt.mul rfl rfl (wr64 (by omega) (by omega))) ?_
       refine RW.q 3 rfl rfl (by kernel_rfl) Sub.any (Qt.move rfl) ?_
       refine RW.q 4 rfl rfl (by kernel_rfl) Sub.any (Qt.add rfl rfl (wr64 (by omega) (by omega))) ?_
       refine RW.q 5 rfl rfl (by kernel_rfl) Sub.any (Qt.mul rfl rfl (wr64 (by omega) (by omega))) ?_
       refine RW.q 6 rfl rfl (by kernel_rfl) Sub.any (Qt.sliceS (i * 256) ((i + 1) * 256) ((al.take ((i + 1) * 256)).drop (i * 256)) (by kernel_rfl) rfl rfl rfl (by omega) (by omega) (by omega) (by omega) rfl) ?_
       first | refine RW.q 7 rfl rfl (by kernel_rfl) Sub.any (Qt.loadAgg [_, _, _, _, _] (by kernel_rfl) rfl ⟨rfl, rfl, rfl, rfl, rfl, trivial⟩) ?_ | refine RW.q 7 rfl rfl (by kernel_rfl) Sub.any (Qt.loadAgg [_, _, _, _, _] (by kernel_rfl) rfl (by exact rdl_flat _ _ _ (by intros; rfl) _ (by omega))) ?_
       refine RW.q 8 rfl rfl (by kernel_rfl) Sub.any (Qt.move rfl) ?_
       refine RW.one 9 (by kernel_rfl) ?_
       refine RO.eS rfl rfl (Ef.call (Rl.sector B ⟨first, n, st, s, st.length⟩ i i rfl (by omega) (by show st.length < _; omega)) Tryz.func26 rfl rfl rfl ?_)
       rintro _ _ ⟨rfl, rfl⟩
       try simp only [List.cons_append, List.nil_append]
       refine ⟨Sub.any, ?_⟩
       refine RW.q 10 rfl rfl (by kernel_rfl) Sub.any (Qt.neqS rfl rfl) ?_
       refine RW.done (by rfl) ?_
       simp only [List.drop_succ_cons, List.drop_zero, List.drop_nil]
       refine LW.done ?_
       refine T.condP rfl (fun hne => ?_) (fun hne => ?_)
       ·
        rw [if_neg hne] at hstep
        refine T.drawBl 12 (some g3) (by kernel_rfl) (Nat.le_of_ble_eq_true rfl) (by kernel_rfl) ?_
        refine RW.q 1 rfl rfl (by kernel_rfl) Sub.any (Qt.move rfl) ?_
        refine RW.q 2 rfl rfl (by kernel_rfl) Sub.any (Qt.move rfl) ?_
        refine RW.q 3 rfl rfl (by kernel_rfl) Sub.any (Qt.add rfl rfl (wr64 (by omega) (by omega))) ?_
        first | refine RW.q 4 rfl rfl (by kernel_rfl) Sub.any (Qt.loadAgg [_, _, _, _, _] (by kernel_rfl) rfl ⟨rfl, rfl, rfl, rfl, rfl, trivial⟩) ?_ | refine RW.q 4 rfl rfl (by kernel_rfl) Sub.any (Qt.loadAgg [_, _, _, _, _] (by kernel_rfl) rfl (by exact rdl_flat _ _ _ (by intros; rfl) _ (by omega))) ?_
        refine RW.q 5 rfl rfl (by kernel_rfl) Sub.any (Qt.move rfl) ?_
        refine RW.all [0, 6] (by kernel_rfl) (List.forall_mem_cons.2 ⟨?_, List.forall_mem_cons.2 ⟨?_, List.forall_mem_nil _⟩⟩)
        ·
         first | refine RO.eS rfl rfl (Ef.qt (Qt.loadAgg [_, _] (by kernel_rfl) rfl ⟨rfl, rfl, trivial⟩) ?_) | refine RO.eS rfl rfl (Ef.qt (Qt.loadAgg [_, _] (by kernel_rfl) rfl (by exact rdl_flat _ _ _ (by intros; rfl) _ (by omega))) ?_)
         refine ⟨Sub.any, ?_⟩
         refine RW.one 6 (by kernel_rfl) ?_
         refine RO.eS rfl rfl (Ef.call (Rl.sector B ⟨first, n, st, s, st.length⟩ i i rfl (by omega) (by show st.length < _; omega)) Tryz.func26 rfl rfl rfl ?_)
         rintro _ _ ⟨rfl, rfl⟩
         try simp only [List.cons_append, List.nil_append]
         refine ⟨Sub.any, ?_⟩
         refine RW.one 7 (by kernel_rfl) ?_
         refine RO.eS rfl rfl (Ef.call (Rf.put B p q a c N m' (first + i) (first + i) (by omega) (secW st i) D'.secs D'.pend (by omega) (by omega) (by omega) (length_secW _ _)) Tryz.func27 rfl rfl rfl ?_)
         rintro _ _ ⟨p1, a1, q1, c1, rfl, rfl⟩
         try simp only [List.cons_append, List.nil_append]
         refine ⟨Sub.any, ?_⟩
         refine RW.q 8 rfl rfl (by kernel_rfl) Sub.any (Qt.move rfl) ?_
         refine RW.q 9 rfl rfl (by kernel_rfl) Sub.any (Qt.extract rfl rfl) ?_
         refine RW.q 10 rfl rfl (by kernel_rfl) Sub.any (Qt.extract rfl rfl) ?_
         refine RW.one 11 (by kernel_rfl) ?_
         refine RO.eS0 rfl rfl (Ef.store [_, _] (by kernel_rfl) rfl rfl rfl rfl (by simp) ?_)
         try simp only [splice, List.length_cons, List.length_nil, List.drop_succ_cons, List.cons_append, List.take_succ_cons, List.take_zero, List.drop_zero, List.nil_append, List.append_nil]
         refine ⟨Sub.any, ?_⟩
         refine RW.done (by rfl) ?_
         simp only [List.drop_succ_cons, List.drop_zero, List.drop_nil]
         refine LW.done ?_
         refine T.region ?_
         refine LW.q rfl (Qt.move rfl) ?_
         refine LW.q rfl (Qt.add rfl rfl (wr64 (by omega) (by omega))) ?_
         refine LW.q rfl (Qt.assign rfl) ?_
         refine LW.done ?_
         refine ⟨_, ?_, _, ⟨_, i + 1, ⟨D'.secs, D'.pend ++ [(first + i, secW st i)]⟩, p1, q1, a1, c1, m' + 1, ⟨by omega, ho.wr2 _ _ (by omega) (length_secW _ _), hsl, by simp [hpl], by omega, by rw [hstep] at hwi; exact hwi⟩, rfl, (updS rfl (updS rfl (updS rfl (updS rfl (updS rfl (updS rfl (updS rfl (updS rfl (updS rfl rfl))))))))), rfl⟩, Sub.any⟩
         first | omega | (simp; omega)
        ·
         refine RO.eS rfl rfl (Ef.call (Rl.sector B ⟨first, n, st, s, st.length⟩ i i rfl (by omega) (by show st.length < _; omega)) Tryz.func26 rfl rfl rfl ?_)
         rintro _ _ ⟨rfl, rfl⟩
         try simp only [List.cons_append, List.nil_append]
         refine ⟨Sub.any, ?_⟩
         refine RW.one 0 (by kernel_rfl) ?_
         first | refine RO.eS rfl rfl (Ef.qt (Qt.loadAgg [_, _] (by kernel_rfl) rfl ⟨rfl, rfl, trivial⟩) ?_) | refine RO.eS rfl rfl (Ef.qt (Qt.loadAgg [_, _] (by kernel_rfl) rfl (by exact rdl_flat _ _ _ (by intros; rfl) _ (by omega))) ?_)
         refine ⟨Sub.any, ?_⟩
         refine RW.one 7 (by kernel_rfl) ?_
         refine RO.eS rfl rfl (Ef.call (Rf.put B p q a c N m' (first + i) (first + i) (by omega) (secW st i) D'.secs D'.pend (by omega) (by omega) (by omega) (length_secW _ _)) Tryz.func27 rfl rfl rfl ?_)
         rintro _ _ ⟨p1, a1, q1, c1, rfl, rfl⟩
         try simp only [List.cons_append, List.nil_append]
         refine ⟨Sub.any, ?_⟩
         refine RW.q 8 rfl rfl (by kernel_rfl) Sub.any (Qt.move rfl) ?_
         refine RW.q 9 rfl rfl (by kernel_rfl) Sub.any (Qt.extract rfl rfl) ?_
         refine RW.q 10 rfl rfl (by kernel_rfl) Sub.any (Qt.extract rfl rfl) ?_
         refine RW.one 11 (by kernel_rfl) ?_
         refine RO.eS0 rfl rfl (Ef.store [_, _] (by kernel_rfl) rfl rfl rfl rfl (by simp) ?_)
         try simp only [splice, List.length_cons, List.length_nil, List.drop_succ_cons, List.cons_append, List.take_succ_cons, List.take_zero, List.drop_zero, List.nil_append, List.append_nil]
         refine ⟨Sub.any, ?_⟩
         refine RW.done (by rfl) ?_
         simp only [List.drop_succ_cons, List.drop_zero, List.drop_nil]
         refine LW.done ?_
         refine T.region ?_
         refine LW.q rfl (Qt.move rfl) ?_
         refine LW.q rfl (Qt.add rfl rfl (wr64 (by omega) (by omega))) ?_
         refine LW.q rfl (Qt.assign rfl) ?_
         refine LW.done ?_
         refine ⟨_, ?_, _, ⟨_, i + 1, ⟨D'.secs, D'.pend ++ [(first + i, secW st i)]⟩, p1, q1, a1, c1, m' + 1, ⟨by omega, ho.wr2 _ _ (by omega) (length_secW _ _), hsl, by simp [hpl], by omega, by rw [hstep] at hwi; exact hwi⟩, rfl, (updS rfl (updS rfl (updS rfl (updS rfl (updS rfl (updS rfl (updS rfl (updS rfl (updS rfl rfl))))))))), rfl⟩, Sub.any⟩
         first | omega | (simp; omega)
       ·
        rw [if_pos (Decidable.not_not.1 hne)] at hstep
        refine T.skip ?_
        refine T.region ?_
        refine LW.q rfl (Qt.move rfl) ?_
        refine LW.q rfl (Qt.add rfl rfl (wr64 (by omega) (by omega))) ?_
        refine LW.q rfl (Qt.assign rfl) ?_
        refine LW.done ?_
        refine ⟨_, ?_, _, ⟨_, i + 1, D', p, q, a, c, m', ⟨by omega, ho, hsl, hpl, by omega, by rw [← hstep]; exact hwi⟩, rfl, (updS rfl (updS rfl (updS rfl (updS rfl (updS rfl (updS rfl (updS rfl (updS rfl (updS rfl rfl))))))))), rfl⟩, Sub.any⟩
        first | omega | (simp; omega)
      ·
       obtain rfl : i = n := by omega
       rw [Nat.sub_self] at hwi
       refine T.exit ?_
       refine T.seq ?_
       refine T.draw 6 ([blk g3 [.slice p N a, .slice q m' c] 30, blk g14 [.string (strOf st), .int .u32 s.toNat, .int .i64 st.length, .int .i64 first, .int .i64 i] 35]) (by kernel_rfl) (Nat.le_of_ble_eq_true rfl) (by kernel_rfl) ?_
       first | refine RW.q 0 rfl rfl (by kernel_rfl) Sub.any (Qt.loadAgg [_, _] (by kernel_rfl) rfl ⟨rfl, rfl, trivial⟩) ?_ | refine RW.q 0 rfl rfl (by kernel_rfl) Sub.any (Qt.loadAgg [_, _] (by kernel_rfl) rfl (by exact rdl_flat _ _ _ (by intros; rfl) _ (by omega))) ?_
       first | refine RW.q 2 rfl rfl (by kernel_rfl) Sub.any (Qt.loadAgg [_, _, _, _, _] (by kernel_rfl) rfl ⟨rfl, rfl, rfl, rfl, rfl, trivial⟩) ?_ | refine RW.q 2 rfl rfl (by kernel_rfl) Sub.any (Qt.loadAgg [_, _, _, _, _] (by kernel_rfl) rfl (by exact rdl_flat _ _ _ (by intros; rfl) _ (by omega))) ?_
       refine RW.q 3 rfl rfl (by kernel_rfl) Sub.any (Qt.move rfl) ?_
       refine RW.one 1 (by kernel_rfl) ?_
       refine RO.eS rfl rfl (Ef.call (Rf.crash B p q a c N m' true (.slice none 0 0) [] 0 0 D'.secs D'.pend ho (by omega) ⟨none, 0, rfl, .inl rfl⟩) Tryz.func28 rfl rfl rfl ?_)
       rintro _ _ ⟨p1, a1, rfl, rfl⟩
       try simp only [List.cons_append, List.nil_append]
       refine ⟨Sub.any, ?_⟩
       refine RW.one 4 (by kernel_rfl) ?_
       refine RO.eS0 rfl rfl (Ef.store [_, _] (by kernel_rfl) rfl rfl rfl rfl (by simp) ?_)
       try simp only [splice, List.length_cons, List.length_nil, List.drop_succ_cons, List.cons_append, List.take_succ_cons, List.take_zero, List.drop_zero, List.nil_append, List.append_nil]
       refine ⟨Sub.any, ?_⟩
       refine RW.one 5 (by kernel_rfl) ?_
       refine RO.eS0 rfl rfl (Ef.store [_, _, _, _, _] (by kernel_rfl) rfl rfl rfl rfl (by simp) ?_)
       try simp only [splice, List.length_cons, List.length_nil, List.drop_succ_cons, List.cons_append, List.take_succ_cons, List.take_zero, List.drop_zero, List.nil_append, List.append_nil]
       refine ⟨Sub.any, ?_⟩
       refine RW.done (by rfl) ?_
       simp only [List.drop_succ_cons, List.drop_zero, List.drop_nil]
       refine LW.q rfl (Qt.assign rfl) ?_
       refine LW.q rfl (Qt.assign rfl) ?_
       refine LW.done ?_
       refine T.ret ?_
       exact ⟨.inl rfl, _, _, res [_, _, _, _] rfl ⟨rvA [_, _] (by kernel_rfl) rfl ⟨rfl, rfl, trivial⟩, rvA [_, _, _, _, _] (by kernel_rfl) rfl ⟨rfl, rfl, rfl, rfl, rfl, trivial⟩, rvT rfl, rvT rfl, trivial⟩, ROpenW.mk hal hall hst hstl hfin hnq hpl hwi (lays_all _ [] 0 0 _) rfl rfl, Sub.any⟩
    ·
     refine T.skip ?_
     refine T.seq ?_
     refine T.region ?_
     refine LW.q rfl (Qt.move rfl) ?_
     refine LW.q rfl (Qt.sliceS_ns 4 (by kernel_rfl) rfl rfl rfl (by omega)) ?_
     refine LW.e rfl (Ef.call (Rc.get B ((al.drop k).take 4) (by simp; omega)) Tryz.func24 rfl rfl rfl ?_)
     rintro _ _ ⟨rfl, rfl⟩
     try simp only [List.cons_append, List.nil_append]
     obtain ⟨nn, hnn⟩ : ∃ nn, (get64 ((al.drop k).take 4)).toNat = nn := ⟨_, rfl⟩
     rw [hnn]
     have hnl : nn < 2 ^ 64 := by rw [← hnn]; exact (get64 ((al.drop k).take 4)).toNat_lt
     refine LW.q rfl (Qt.assign rfl) ?_
     refine LW.done ?_
     refine T.seq ?_
     refine T.seq ?_
     refine T.region ?_
     refine LW.q rfl (Qt.move rfl) ?_
     refine LW.q rfl (Qt.eql rfl rfl) ?_
     refine LW.q rfl (Qt.move rfl) ?_
     refine LW.split (t := 77) rfl (fun hz => ?_) (fun hz => ?_)
     ·
      try replace hz := of_decide_eq_true hz
      refine LW.s rfl ?_
      refine LW.s rfl ?_
      refine LW.q rfl (Qt.pick rfl rfl) ?_
      refine LW.q rfl (Qt.move rfl) ?_
      first | refine LW.gT (t := 81) rfl rfl ?_ | refine LW.gT (t := 81) rfl (decide_eq_true (by omega)) ?_ | refine LW.gT (t := 81) rfl (by omega) ?_
      refine LW.s rfl ?_
      refine LW.s rfl ?_
      refine LW.s rfl ?_
      refine LW.s rfl ?_
      refine LW.s rfl ?_
      refine LW.s rfl ?_
      refine LW.q rfl (Qt.pick rfl rfl) ?_
      refine LW.done ?_
      first | refine T.condT rfl ?_ | refine T.condPT rfl (by omega) ?_ | refine T.condBT rfl (by omega) ?_
      have hfin := hsc.stop (takeRec_no hnn (.inl (by omega)))
      have hkl : st.length ≤ n * 256 := by omega
      refine T.exit ?_
      refine T.seq ?_
      refine T.region ?_
      refine LW.q rfl (Qt.fieldAddr0 (by kernel_rfl) rfl) ?_
      first | refine LW.q rfl (Qt.load (by kernel_rfl) rfl rfl) ?_ | refine LW.q rfl (Qt.load (by kernel_rfl) rfl (map_at _ _ _ (by omega))) ?_ | refine LW.q rfl (Qt.load (by kernel_rfl) rfl (flat_cell0 _ _ _ (by intros; rfl) _ (by omega) (by rfl))) ?_ | refine LW.q rfl (Qt.load (by kernel_rfl) rfl (flat_cell _ _ _ (by intros; rfl) _ _ (by omega) (by rfl))) ?_ | refine LW.q rfl (Qt.load (by kernel_rfl) rfl (bytes_at _ _ (by omega))) ?_
      first | refine LW.q rfl (Qt.lenSt (by kernel_rfl) rfl) ?_ | refine LW.q rfl (Qt.lenS (by kernel_rfl) rfl) ?_
      refine LW.q rfl (Qt.fieldAddr (off := 2) (by kernel_rfl) rfl) ?_
      refine LW.e0 rfl (Ef.store1 (by kernel_rfl) rfl rfl rfl (by first | (simp; done) | (simp; omega)) ?_)
      try simp only [List.set_cons_zero, List.set_cons_succ]
      refine LW.done ?_
      refine T.seq ?_
      refine T.seq ?_
      refine T.region ?_
      refine LW.q rfl (Qt.assign rfl) ?_
      refine LW.done ?_
      refine T.block ?_
      refine T.loop (fun mz fz lz => ∃ (f0 : Fr) (i : Nat) (D' : DD) (p q : Option Addr) (a c m' : Nat), (i ≤ n ∧ D'.Ok ∧ D'.secs.length = N ∧ D'.pend.length = m' ∧ m' ≤ m + i ∧ docWipe ⟨first, n, st, s, st.length⟩ al D' i (n - i) = docWipe ⟨first, n, st, s, st.length⟩ al D 0 n) ∧ mz = n - i ∧ fz = (upd (upd (upd (upd (upd (upd (upd (upd (upd f0 1 (.int .i64 first)) 2 (.int .i64 n)) 3 (.pointer (some ⟨g3, 0, none⟩))) 6 (.pointer (some ⟨g6, 0, none⟩))) 7 (.pointer (some ⟨g7, 0, none⟩))) 10 (.string (strOf al))) 14 (.pointer (some ⟨g14, 0, none⟩))) 15 (.slice q2 nq cq)) 20 (.int .i64 i)) ∧ lz = drecR q2 nq cq R :: rS (.slice p N a) N D'.secs :: rW (.slice q m' c) m' D'.pend :: blk g3 [.slice p N a, .slice q m' c] 30 :: blk g6 [.slice none 0 0, .slice none 0 0] 30 :: blk g7 [.string ByteArray.empty, .int .u32 0, .int .i64 0, .int .i64 0, .int .i64 0] 35 :: blk g14 [.string (strOf st), .int .u32 s.toNat, .int .i64 st.length, .int .i64 first, .int .i64 n] 35 :: F) ?_ ?_
      · refine ⟨_, _, ⟨_, 0, D, p, q, a, c, m, ⟨Nat.zero_le _, hD, hN, hm, by omega, by rw [Nat.sub_zero]⟩, rfl, (updS rfl (updS rfl (updS rfl (updS rfl (updS rfl (updS rfl (updS rfl (updS rfl (updS rfl rfl))))))))), rfl⟩, Sub.any⟩
      ·
       rintro mz fz lz ⟨f0, i, D', p, q, a, c, m', ⟨hi, ho, hsl, hpl, hpm, hwi⟩, hmz, rfl, rfl⟩
       subst mz
       try simp only [List.cons_append, List.nil_append]
       refine T.seq ?_
       refine T.seq ?_
       refine T.region ?_
       refine LW.q rfl (Qt.move rfl) ?_
       refine LW.q rfl (Qt.move rfl) ?_
       refine LW.q rfl (Qt.lss rfl rfl) ?_
       refine LW.done ?_
       refine T.condP rfl (fun hlt3 => ?_) (fun hlt3 => ?_)
       ·
        have hstep : docWipe ⟨first, n, st, s, st.length⟩ al D' i (n - i) = docWipe ⟨first, n, st, s, st.length⟩ al (if (al.take ((i + 1) * 256)).drop (i * 256) = secW st i then D' else D'.write (first + i) (secW st i)) (i + 1) (n - (i + 1)) := by rw [show n - i = (n - (i + 1)) + 1 by omega, docWipe]
        refine T.skip ?_
        refine T.seq ?_
        refine T.block ?_
        refine T.seq ?_
        refine T.drawBl 11 none (by kernel_rfl) (Nat.le_of_ble_eq_true rfl) (by kernel_rfl) ?_
        refine RW.q 0 rfl rfl (by kernel_rfl) Sub.any (Qt.move rfl) ?_
        refine RW.q 1 rfl rfl (by kernel_rfl) Sub.any (Qt.move rfl) ?_
        refine RW.q 2 rfl rfl (by kernel_rfl) Sub.any (Qt.mul rfl rfl (wr64 (by omega) (by omega))) ?_
        refine RW.q 3 rfl rfl (by kernel_rfl) Sub.any (Qt.move rfl) ?_
        refine RW.q 4 rfl rfl (by kernel_rfl) Sub.any (Qt.add rfl rfl (wr64 (by omega) (by omega))) ?_
        refine RW.q 5 rfl rfl (by kernel_rfl) Sub.any (Qt.mul rfl rfl (wr64 (by omega) (by omega))) ?_
        refine RW.q 6 rfl rfl (by kernel_rfl) Sub.any (Qt.sliceS (i * 256) ((i + 1) * 256) ((al.take ((i + 1) * 256)).drop (i * 256)) (by kernel_rfl) rfl rfl rfl (by omega) (by omega) (by omega) (by omega) rfl) ?_
        first | refine RW.q 7 rfl rfl (by kernel_rfl) Sub.any (Qt.loadAgg [_, _, _, _, _] (by kernel_rfl) rfl ⟨rfl, rfl, rfl, rfl, rfl, trivial⟩) ?_ | refine RW.q 7 rfl rfl (by kernel_rfl) Sub.any (Qt.loadAgg [_, _, _, _, _] (by kernel_rfl) rfl (by exact rdl_flat _ _ _ (by intros; rfl) _ (by omega))) ?_
        refine RW.q 8 rfl rfl (by kernel_rfl) Sub.any (Qt.move rfl) ?_
        refine RW.one 9 (by kernel_rfl) ?_
        refine RO.eS rfl rfl (Ef.call (Rl.sector B ⟨first, n, st, s, st.length⟩ i i rfl (by omega) (by show st.length < _; omega)) Tryz.func26 rfl rfl rfl ?_)
        rintro _ _ ⟨rfl, rfl⟩
        try simp only [List.cons_append, List.nil_append]
        refine ⟨Sub.any, ?_⟩
        refine RW.q 10 rfl rfl (by kernel_rfl) Sub.any (Qt.neqS rfl rfl) ?_
        refine RW.done (by rfl) ?_
        simp only [List.drop_succ_cons, List.drop_zero, List.drop_nil]
        refine LW.done ?_
        refine T.condP rfl (fun hne => ?_) (fun hne => ?_)
        ·
         rw [if_neg hne] at hstep
         refine T.drawBl 12 (some g3) (by kernel_rfl) (Nat.le_of_ble_eq_true rfl) (by kernel_rfl) ?_
         refine RW.q 1 rfl rfl (by kernel_rfl) Sub.any (Qt.move rfl) ?_
         refine RW.q 2 rfl rfl (by kernel_rfl) Sub.any (Qt.move rfl) ?_
         refine RW.q 3 rfl rfl (by kernel_rfl) Sub.any (Qt.add rfl rfl (wr64 (by omega) (by omega))) ?_
         first | refine RW.q 4 rfl rfl (by kernel_rfl) Sub.any (Qt.loadAgg [_, _, _, _, _] (by kernel_rfl) rfl ⟨rfl, rfl, rfl, rfl, rfl, trivial⟩) ?_ | refine RW.q 4 rfl rfl (by kernel_rfl) Sub.any (Qt.loadAgg [_, _, _, _, _] (by kernel_rfl) rfl (by exact rdl_flat _ _ _ (by intros; rfl) _ (by omega))) ?_
         refine RW.q 5 rfl rfl (by kernel_rfl) Sub.any (Qt.move rfl) ?_
         refine RW.all [0, 6] (by kernel_rfl) (List.forall_mem_cons.2 ⟨?_, List.forall_mem_cons.2 ⟨?_, List.forall_mem_nil _⟩⟩)
         ·
          first | refine RO.eS rfl rfl (Ef.qt (Qt.loadAgg [_, _] (by kernel_rfl) rfl ⟨rfl, rfl, trivial⟩) ?_) | refine RO.eS rfl rfl (Ef.qt (Qt.loadAgg [_, _] (by kernel_rfl) rfl (by exact rdl_flat _ _ _ (by intros; rfl) _ (by omega))) ?_)
          refine ⟨Sub.any, ?_⟩
          refine RW.one 6 (by kernel_rfl) ?_
          refine RO.eS rfl rfl (Ef.call (Rl.sector B ⟨first, n, st, s, st.length⟩ i i rfl (by omega) (by show st.length < _; omega)) Tryz.func26 rfl rfl rfl ?_)
          rintro _ _ ⟨rfl, rfl⟩
          try simp only [List.cons_append, List.nil_append]
          refine ⟨Sub.any, ?_⟩
          refine RW.one 7 (by kernel_rfl) ?_
          refine RO.eS rfl rfl (Ef.call (Rf.put B p q a c N m' (first + i) (first + i) (by omega) (secW st i) D'.secs D'.pend (by omega) (by omega) (by omega) (length_secW _ _)) Tryz.func27 rfl rfl rfl ?_)
          rintro _ _ ⟨p1, a1, q1, c1, rfl, rfl⟩
          try simp only [List.cons_append, List.nil_append]
          refine ⟨Sub.any, ?_⟩
          refine RW.q 8 rfl rfl (by kernel_rfl) Sub.any (Qt.move rfl) ?_
          refine RW.q 9 rfl rfl (by kernel_rfl) Sub.any (Qt.extract rfl rfl) ?_
          refine RW.q 10 rfl rfl (by kernel_rfl) Sub.any (Qt.extract rfl rfl) ?_
          refine RW.one 11 (by kernel_rfl) ?_
          refine RO.eS0 rfl rfl (Ef.store [_, _] (by kernel_rfl) rfl rfl rfl rfl (by simp) ?_)
          try simp only [splice, List.length_cons, List.length_nil, List.drop_succ_cons, List.cons_append, List.take_succ_cons, List.take_zero, List.drop_zero, List.nil_append, List.append_nil]
          refine ⟨Sub.any, ?_⟩
          refine RW.done (by rfl) ?_
          simp only [List.drop_succ_cons, List.drop_zero, List.drop_nil]
          refine LW.done ?_
          refine T.region ?_
          refine LW.q rfl (Qt.move rfl) ?_
          refine LW.q rfl (Qt.add rfl rfl (wr64 (by omega) (by omega))) ?_
          refine LW.q rfl (Qt.assign rfl) ?_
          refine LW.done ?_
          refine ⟨_, ?_, _, ⟨_, i + 1, ⟨D'.secs, D'.pend ++ [(first + i, secW st i)]⟩, p1, q1, a1, c1, m' + 1, ⟨by omega, ho.wr2 _ _ (by omega) (length_secW _ _), hsl, by simp [hpl], by omega, by rw [hstep] at hwi; exact hwi⟩, rfl, (updS rfl (updS rfl (updS rfl (updS rfl (updS rfl (updS rfl (updS rfl (updS rfl (updS rfl rfl))))))))), rfl⟩, Sub.any⟩
          first | omega | (simp; omega)
         ·
          refine RO.eS rfl rfl (Ef.call (Rl.sector B ⟨first, n, st, s, st.length⟩ i i rfl (by omega) (by show st.length < _; omega)) Tryz.func26 rfl rfl rfl ?_)
          rintro _ _ ⟨rfl, rfl⟩
          try simp only [List.cons_append, List.nil_append]
          refine ⟨Sub.any, ?_⟩
          refine RW.one 0 (by kernel_rfl) ?_
          first | refine RO.eS rfl rfl (Ef.qt (Qt.loadAgg [_, _] (by kernel_rfl) rfl ⟨rfl, rfl, trivial⟩) ?_) | refine RO.eS rfl rfl (Ef.qt (Qt.loadAgg [_, _] (by kernel_rfl) rfl (by exact rdl_flat _ _ _ (by intros; rfl) _ (by omega))) ?_)
          refine ⟨Sub.any, ?_⟩
          refine RW.one 7 (by kernel_rfl) ?_
          refine RO.eS rfl rfl (Ef.call (Rf.put B p q a c N m' (first + i) (first + i) (by omega) (secW st i) D'.secs D'.pend (by omega) (by omega) (by omega) (length_secW _ _)) Tryz.func27 rfl rfl rfl ?_)
          rintro _ _ ⟨p1, a1, q1, c1, rfl, rfl⟩
          try simp only [List.cons_append, List.nil_append]
          refine ⟨Sub.any, ?_⟩
          refine RW.q 8 rfl rfl (by kernel_rfl) Sub.any (Qt.move rfl) ?_
          refine RW.q 9 rfl rfl (by kernel_rfl) Sub.any (Qt.extract rfl rfl) ?_
          refine RW.q 10 rfl rfl (by kernel_rfl) Sub.any (Qt.extract rfl rfl) ?_
          refine RW.one 11 (by kernel_rfl) ?_
          refine RO.eS0 rfl rfl (Ef.store [_, _] (by kernel_rfl) rfl rfl rfl rfl (by simp) ?_)
          try simp only [splice, List.length_cons, List.length_nil, List.drop_succ_cons, List.cons_append, List.take_succ_cons, List.take_zero, List.drop_zero, List.nil_append, List.append_nil]
          refine ⟨Sub.any, ?_⟩
          refine RW.done (by rfl) ?_
          simp only [List.drop_succ_cons, List.drop_zero, List.drop_nil]
          refine LW.done ?_
          refine T.region ?_
          refine LW.q rfl (Qt.move rfl) ?_
          refine LW.q rfl (Qt.add rfl rfl (wr64 (by omega) (by omega))) ?_
          refine LW.q rfl (Qt.assign rfl) ?_
          refine LW.done ?_
          refine ⟨_, ?_, _, ⟨_, i + 1, ⟨D'.secs, D'.pend ++ [(first + i, secW st i)]⟩, p1, q1, a1, c1, m' + 1, ⟨by omega, ho.wr2 _ _ (by omega) (length_secW _ _), hsl, by simp [hpl], by omega, by rw [hstep] at hwi; exact hwi⟩, rfl, (updS rfl (updS rfl (updS rfl (updS rfl (updS rfl (updS rfl (updS rfl (updS rfl (updS rfl rfl))))))))), rfl⟩, Sub.any⟩
          first | omega | (simp; omega)
        ·
         rw [if_pos (Decidable.not_not.1 hne)] at hstep
         refine T.skip ?_
         refine T.region ?_
         refine LW.q rfl (Qt.move rfl) ?_
         refine LW.q rfl (Qt.add rfl rfl (wr64 (by omega) (by omega))) ?_
         refine LW.q rfl (Qt.assign rfl) ?_
         refine LW.done ?_
         refine ⟨_, ?_, _, ⟨_, i + 1, D', p, q, a, c, m', ⟨by omega, ho, hsl, hpl, by omega, by rw [← hstep]; exact hwi⟩, rfl, (updS rfl (updS rfl (updS rfl (updS rfl (updS rfl (updS rfl (updS rfl (updS rfl (updS rfl rfl))))))))), rfl⟩, Sub.any⟩
         first | omega | (simp; omega)
       ·
        obtain rfl : i = n := by omega
        rw [Nat.sub_self] at hwi
        refine T.exit ?_
        refine T.seq ?_
        refine T.draw 6 ([blk g3 [.slice p N a, .slice q m' c] 30, blk g14 [.string (strOf st), .int .u32 s.toNat, .int .i64 st.length, .int .i64 first, .int .i64 i] 35]) (by kernel_rfl) (Nat.le_of_ble_eq_true rfl) (by kernel_rfl) ?_
        first | refine RW.q 0 rfl rfl (by kernel_rfl) Sub.any (Qt.loadAgg [_, _] (by kernel_rfl) rfl ⟨rfl, rfl, trivial⟩) ?_ | refine RW.q 0 rfl rfl (by kernel_rfl) Sub.any (Qt.loadAgg [_, _] (by kernel_rfl) rfl (by exact rdl_flat _ _ _ (by intros; rfl) _ (by omega))) ?_
        first | refine RW.q 2 rfl rfl (by kernel_rfl) Sub.any (Qt.loadAgg [_, _, _, _, _] (by kernel_rfl) rfl ⟨rfl, rfl, rfl, rfl, rfl, trivial⟩) ?_ | refine RW.q 2 rfl rfl (by kernel_rfl) Sub.any (Qt.loadAgg [_, _, _, _, _] (by kernel_rfl) rfl (by exact rdl_flat _ _ _ (by intros; rfl) _ (by omega))) ?_
        refine RW.q 3 rfl rfl (by kernel_rfl) Sub.any (Qt.move rfl) ?_
        refine RW.one 1 (by kernel_rfl) ?_
        refine RO.eS rfl rfl (Ef.call (Rf.crash B p q a c N m' true (.slice none 0 0) [] 0 0 D'.secs D'.pend ho (by omega) ⟨none, 0, rfl, .inl rfl⟩) Tryz.func28 rfl rfl rfl ?_)
        rintro _ _ ⟨p1, a1, rfl, rfl⟩
        try simp only [List.cons_append, List.nil_append]
        refine ⟨Sub.any, ?_⟩
        refine RW.one 4 (by kernel_rfl) ?_
        refine RO.eS0 rfl rfl (Ef.store [_, _] (by kernel_rfl) rfl rfl rfl rfl (by simp) ?_)
        try simp only [splice, List.length_cons, List.length_nil, List.drop_succ_cons, List.cons_append, List.take_succ_cons, List.take_zero, List.drop_zero, List.nil_append, List.append_nil]
        refine ⟨Sub.any, ?_⟩
        refine RW.one 5 (by kernel_rfl) ?_
        refine RO.eS0 rfl rfl (Ef.store [_, _, _, _, _] (by kernel_rfl) rfl rfl rfl rfl (by simp) ?_)
        try simp only [splice, List.length_cons, List.length_nil, List.drop_succ_cons, List.cons_append, List.take_succ_cons, List.take_zero, List.drop_zero, List.nil_append, List.append_nil]
        refine ⟨Sub.any, ?_⟩
        refine RW.done (by rfl) ?_
        simp only [List.drop_succ_cons, List.drop_zero, List.drop_nil]
        refine LW.q rfl (Qt.assign rfl) ?_
        refine LW.q rfl (Qt.assign rfl) ?_
        refine LW.done ?_
        refine T.ret ?_
        exact ⟨.inl rfl, _, _, res [_, _, _, _] rfl ⟨rvA [_, _] (by kernel_rfl) rfl ⟨rfl, rfl, trivial⟩, rvA [_, _, _, _, _] (by kernel_rfl) rfl ⟨rfl, rfl, rfl, rfl, rfl, trivial⟩, rvT rfl, rvT rfl, trivial⟩, ROpenW.mk hal hall hst hstl hfin hnq hpl hwi (lays_all _ [] 0 0 _) rfl rfl, Sub.any⟩
     ·
      try replace hz := of_decide_eq_false hz
      refine LW.q rfl (Qt.move rfl) ?_
      refine LW.q rfl (Qt.gtr rfl rfl) ?_
      refine LW.q rfl (Qt.pick rfl rfl) ?_
      refine LW.q rfl (Qt.move rfl) ?_
      refine LW.split (t := 81) rfl (fun hbig => ?_) (fun hbig => ?_)
      ·
       try replace hbig := of_decide_eq_true hbig
       refine LW.s rfl ?_
       refine LW.s rfl ?_
       refine LW.s rfl ?_
       refine LW.s rfl ?_
       refine LW.s rfl ?_
       refine LW.s rfl ?_
       refine LW.q rfl (Qt.pick rfl rfl) ?_
       refine LW.done ?_
       first | refine T.condT rfl ?_ | refine T.condPT rfl (by omega) ?_ | refine T.condBT rfl (by omega) ?_
       have hfin := hsc.stop (takeRec_no hnn (.inr (.inl (by omega))))
       have hkl : st.length ≤ n * 256 := by omega
       refine T.exit ?_
       refine T.seq ?_
       refine T.region ?_
       refine LW.q rfl (Qt.fieldAddr0 (by kernel_rfl) rfl) ?_
       first | refine LW.q rfl (Qt.load (by kernel_rfl) rfl rfl) ?_ | refine LW.q rfl (Qt.load (by kernel_rfl) rfl (map_at _ _ _ (by omega))) ?_ | refine LW.q rfl (Qt.load (by kernel_rfl) rfl (flat_cell0 _ _ _ (by intros; rfl) _ (by omega) (by rfl))) ?_ | refine LW.q rfl (Qt.load (by kernel_rfl) rfl (flat_cell _ _ _ (by intros; rfl) _ _ (by omega) (by rfl))) ?_ | refine LW.q rfl (Qt.load (by kernel_rfl) rfl (bytes_at _ _ (by omega))) ?_
       first | refine LW.q rfl (Qt.lenSt (by kernel_rfl) rfl) ?_ | refine LW.q rfl (Qt.lenS (by kernel_rfl) rfl) ?_
       refine LW.q rfl (Qt.fieldAddr (off := 2) (by kernel_rfl) rfl) ?_
       refine LW.e0 rfl (Ef.store1 (by kernel_rfl) rfl rfl rfl (by first | (simp; done) | (simp; omega)) ?_)
       try simp only [List.set_cons_zero, List.set_cons_succ]
       refine LW.done ?_
       refine T.seq ?_
       refine T.seq ?_
       refine T.region ?_
       refine LW.q rfl (Qt.assign rfl) ?_
       refine LW.done ?_
       refine T.block ?_
       refine T.loop (fun mz fz lz => ∃ (f0 : Fr) (i : Nat) (D' : DD) (p q : Option Addr) (a c m' : Nat), (i ≤ n ∧ D'.Ok ∧ D'.secs.length = N ∧ D'.pend.length = m' ∧ m' ≤ m + i ∧ docWipe ⟨first, n, st, s, st.length⟩ al D' i (n - i) = docWipe ⟨first, n, st, s, st.length⟩ al D 0 n) ∧ mz = n - i ∧ fz = (upd (upd (upd (upd (upd (upd (upd (upd (upd f0 1 (.int .i64 first)) 2 (.int .i64 n)) 3 (.pointer (some ⟨g3, 0, none⟩))) 6 (.pointer (some ⟨g6, 0, none⟩))) 7 (.pointer (some ⟨g7, 0, none⟩))) 10 (.string (strOf al))) 14 (.pointer (some ⟨g14, 0, none⟩))) 15 (.slice q2 nq cq)) 20 (.int .i64 i)) ∧ lz = drecR q2 nq cq R :: rS (.slice p N a) N D'.secs :: rW (.slice q m' c) m' D'.pend :: blk g3 [.slice p N a, .slice q m' c] 30 :: blk g6 [.slice none 0 0, .slice none 0 0] 30 :: blk g7 [.string ByteArray.empty, .int .u32 0, .int .i64 0, .int .i64 0, .int .i64 0] 35 :: blk g14 [.string (strOf st), .int .u32 s.toNat, .int .i64 st.length, .int .i64 first, .int .i64 n] 35 :: F) ?_ ?_
       · refine ⟨_, _, ⟨_, 0, D, p, q, a, c, m, ⟨Nat.zero_le _, hD, hN, hm, by omega, by rw [Nat.sub_zero]⟩, rfl, (updS rfl (updS rfl (updS rfl (updS rfl (updS rfl (updS rfl (updS rfl (updS rfl (updS rfl rfl))))))))), rfl⟩, Sub.any⟩
       ·
        rintro mz fz lz ⟨f0, i, D', p, q, a, c, m', ⟨hi, ho, hsl, hpl, hpm, hwi⟩, hmz, rfl, rfl⟩
        subst mz
        try simp only [List.cons_append, List.nil_append]
        refine T.seq ?_
        refine T.seq ?_
        refine T.region ?_
        refine LW.q rfl (Qt.move rfl) ?_
        refine LW.q rfl (Qt.move rfl) ?_
        refine LW.q rfl (Qt.lss rfl rfl) ?_
        refine LW.done ?_
        refine T.condP rfl (fun hlt3 => ?_) (fun hlt3 => ?_)
        ·
         have hstep : docWipe ⟨first, n, st, s, st.length⟩ al D' i (n - i) = docWipe ⟨first, n, st, s, st.length⟩ al (if (al.take ((i + 1) * 256)).drop (i * 256) = secW st i then D' else D'.write (first + i) (secW st i)) (i + 1) (n - (i + 1)) := by rw [show n - i = (n - (i + 1)) + 1 by omega, docWipe]
         refine T.skip ?_
         refine T.seq ?_
         refine T.block ?_
         refine T.seq ?_
         refine T.drawBl 11 none (by kernel_rfl) (Nat.le_of_ble_eq_true rfl) (by kernel_rfl) ?_
         refine RW.q 0 rfl rfl (by kernel_rfl) Sub.any (Qt.move rfl) ?_
         refine RW.q 1 rfl rfl (by kernel_rfl) Sub.any (Qt.move rfl) ?_
         refine RW.q 2 rfl rfl (by kernel_rfl) Sub.any (Qt.mul rfl rfl (wr64 (by omega) (by omega))) ?_
         refine RW.q 3 rfl rfl (by kernel_rfl) Sub.any (Qt.move rfl) ?_
         refine RW.q 4 rfl rfl (by kernel_rfl) Sub.any (Qt.add rfl rfl (wr64 (by omega) (by omega))) ?_
         refine RW.q 5 rfl rfl (by kernel_rfl) Sub.any (Qt.mul rfl rfl (wr64 (by omega) (by omega))) ?_
         refine RW.q 6 rfl rfl (by kernel_rfl) Sub.any (Qt.sliceS (i * 256) ((i + 1) * 256) ((al.take ((i + 1) * 256)).drop (i * 256)) (by kernel_rfl) rfl rfl rfl (by omega) (by omega) (by omega) (by omega) rfl) ?_
         first | refine RW.q 7 rfl rfl (by kernel_rfl) Sub.any (Qt.loadAgg [_, _, _, _, _] (by kernel_rfl) rfl ⟨rfl, rfl, rfl, rfl, rfl, trivial⟩) ?_ | refine RW.q 7 rfl rfl (by kernel_rfl) Sub.any (Qt.loadAgg [_, _, _, _, _] (by kernel_rfl) rfl (by exact rdl_flat _ _ _ (by intros; rfl) _ (by omega))) ?_
         refine RW.q 8 rfl rfl (by kernel_rfl) Sub.any (Qt.move rfl) ?_
         refine RW.one 9 (by kernel_rfl) ?_
         refine RO.eS rfl rfl (Ef.call (Rl.sector B ⟨first, n, st, s, st.length⟩ i i rfl (by omega) (by show st.length < _; omega)) Tryz.func26 rfl rfl rfl ?_)
         rintro _ _ ⟨rfl, rfl⟩
         try simp only [List.cons_append, List.nil_append]
         refine ⟨Sub.any, ?_⟩
         refine RW.q 10 rfl rfl (by kernel_rfl) Sub.any (Qt.neqS rfl rfl) ?_
         refine RW.done (by rfl) ?_
         simp only [List.drop_succ_cons, List.drop_zero, List.drop_nil]
         refine LW.done ?_
         refine T.condP rfl (fun hne => ?_) (fun hne => ?_)
         ·
          rw [if_neg hne] at hstep
          refine T.drawBl 12 (some g3) (by kernel_rfl) (Nat.le_of_ble_eq_true rfl) (by kernel_rfl) ?_
          refine RW.q 1 rfl rfl (by kernel_rfl) Sub.any (Qt.move rfl) ?_
          refine RW.q 2 rfl rfl (by kernel_rfl) Sub.any (Qt.move rfl) ?_
          refine RW.q 3 rfl rfl (by kernel_rfl) Sub.any (Qt.add rfl rfl (wr64 (by omega) (by omega))) ?_
          first | refine RW.q 4 rfl rfl (by kernel_rfl) Sub.any (Qt.loadAgg [_, _, _, _, _] (by kernel_rfl) rfl ⟨rfl, rfl, rfl, rfl, rfl, trivial⟩) ?_ | refine RW.q 4 rfl rfl (by kernel_rfl) Sub.any (Qt.loadAgg [_, _, _, _, _] (by kernel_rfl) rfl (by exact rdl_flat _ _ _ (by intros; rfl) _ (by omega))) ?_
          refine RW.q 5 rfl rfl (by kernel_rfl) Sub.any (Qt.move rfl) ?_
          refine RW.all [0, 6] (by kernel_rfl) (List.forall_mem_cons.2 ⟨?_, List.forall_mem_cons.2 ⟨?_, List.forall_mem_nil _⟩⟩)
          ·
           first | refine RO.eS rfl rfl (Ef.qt (Qt.loadAgg [_, _] (by kernel_rfl) rfl ⟨rfl, rfl, trivial⟩) ?_) | refine RO.eS rfl rfl (Ef.qt (Qt.loadAgg [_, _] (by kernel_rfl) rfl (by exact rdl_flat _ _ _ (by intros; rfl) _ (by omega))) ?_)
           refine ⟨Sub.any, ?_⟩
           refine RW.one 6 (by kernel_rfl) ?_
           refine RO.eS rfl rfl (Ef.call (Rl.sector B ⟨first, n, st, s, st.length⟩ i i rfl (by omega) (by show st.length < _; omega)) Tryz.func26 rfl rfl rfl ?_)
           rintro _ _ ⟨rfl, rfl⟩
           try simp only [List.cons_append, List.nil_append]
           refine ⟨Sub.any, ?_⟩
           refine RW.one 7 (by kernel_rfl) ?_
           refine RO.eS rfl rfl (Ef.call (Rf.put B p q a c N m' (first + i) (first + i) (by omega) (secW st i) D'.secs D'.pend (by omega) (by omega) (by omega) (length_secW _ _)) Tryz.func27 rfl rfl rfl ?_)
           rintro _ _ ⟨p1, a1, q1, c1, rfl, rfl⟩
           try simp only [List.cons_append, List.nil_append]
           refine ⟨Sub.any, ?_⟩
           refine RW.q 8 rfl rfl (by kernel_rfl) Sub.any (Qt.move rfl) ?_
           refine RW.q 9 rfl rfl (by kernel_rfl) Sub.any (Qt.extract rfl rfl) ?_
           refine RW.q 10 rfl rfl (by kernel_rfl) Sub.any (Qt.extract rfl rfl) ?_
           refine RW.one 11 (by kernel_rfl) ?_
           refine RO.eS0 rfl rfl (Ef.store [_, _] (by kernel_rfl) rfl rfl rfl rfl (by simp) ?_)
           try simp only [splice, List.length_cons, List.length_nil, List.drop_succ_cons, List.cons_append, List.take_succ_cons, List.take_zero, List.drop_zero, List.nil_append, List.append_nil]
           refine ⟨Sub.any, ?_⟩
           refine RW.done (by rfl) ?_
           simp only [List.drop_succ_cons, List.drop_zero, List.drop_nil]
           refine LW.done ?_
           refine T.region ?_
           refine LW.q rfl (Qt.move rfl) ?_
           refine LW.q rfl (Qt.add rfl rfl (wr64 (by omega) (by omega))) ?_
           refine LW.q rfl (Qt.assign rfl) ?_
           refine LW.done ?_
           refine ⟨_, ?_, _, ⟨_, i + 1, ⟨D'.secs, D'.pend ++ [(first + i, secW st i)]⟩, p1, q1, a1, c1, m' + 1, ⟨by omega, ho.wr2 _ _ (by omega) (length_secW _ _), hsl, by simp [hpl], by omega, by rw [hstep] at hwi; exact hwi⟩, rfl, (updS rfl (updS rfl (updS rfl (updS rfl (updS rfl (updS rfl (updS rfl (updS rfl (updS rfl rfl))))))))), rfl⟩, Sub.any⟩
           first | omega | (simp; omega)
          ·
           refine RO.eS rfl rfl (Ef.call (Rl.sector B ⟨first, n, st, s, st.length⟩ i i rfl (by omega) (by show st.length < _; omega)) Tryz.func26 rfl rfl rfl ?_)
           rintro _ _ ⟨rfl, rfl⟩
           try simp only [List.cons_append, List.nil_append]
           refine ⟨Sub.any, ?_⟩
           refine RW.one 0 (by kernel_rfl) ?_
           first | refine RO.eS rfl rfl (Ef.qt (Qt.loadAgg [_, _] (by kernel_rfl) rfl ⟨rfl, rfl, trivial⟩) ?_) | refine RO.eS rfl rfl (Ef.qt (Qt.loadAgg [_, _] (by kernel_rfl) rfl (by exact rdl_flat _ _ _ (by intros; rfl) _ (by omega))) ?_)
           refine ⟨Sub.any, ?_⟩
           refine RW.one 7 (by kernel_rfl) ?_
           refine RO.eS rfl rfl (Ef.call (Rf.put B p q a c N m' (first + i) (first + i) (by omega) (secW st i) D'.secs D'.pend (by omega) (by omega) (by omega) (length_secW _ _)) Tryz.func27 rfl rfl rfl ?_)
           rintro _ _ ⟨p1, a1, q1, c1, rfl, rfl⟩
           try simp only [List.cons_append, List.nil_append]
           refine ⟨Sub.any, ?_⟩
           refine RW.q 8 rfl rfl (by kernel_rfl) Sub.any (Qt.move rfl) ?_
           refine RW.q 9 rfl rfl (by kernel_rfl) Sub.any (Qt.extract rfl rfl) ?_
           refine RW.q 10 rfl rfl (by kernel_rfl) Sub.any (Qt.extract rfl rfl) ?_
           refine RW.one 11 (by kernel_rfl) ?_
           refine RO.eS0 rfl rfl (Ef.store [_, _] (by kernel_rfl) rfl rfl rfl rfl (by simp) ?_)
           try simp only [splice, List.length_cons, List.length_nil, List.drop_succ_cons, List.cons_append, List.take_succ_cons, List.take_zero, List.drop_zero, List.nil_append, List.append_nil]
           refine ⟨Sub.any, ?_⟩
           refine RW.done (by rfl) ?_
           simp only [List.drop_succ_cons, List.drop_zero, List.drop_nil]
           refine LW.done ?_
           refine T.region ?_
           refine LW.q rfl (Qt.move rfl) ?_
           refine LW.q rfl (Qt.add rfl rfl (wr64 (by omega) (by omega))) ?_
           refine LW.q rfl (Qt.assign rfl) ?_
           refine LW.done ?_
           refine ⟨_, ?_, _, ⟨_, i + 1, ⟨D'.secs, D'.pend ++ [(first + i, secW st i)]⟩, p1, q1, a1, c1, m' + 1, ⟨by omega, ho.wr2 _ _ (by omega) (length_secW _ _), hsl, by simp [hpl], by omega, by rw [hstep] at hwi; exact hwi⟩, rfl, (updS rfl (updS rfl (updS rfl (updS rfl (updS rfl (updS rfl (updS rfl (updS rfl (updS rfl rfl))))))))), rfl⟩, Sub.any⟩
           first | omega | (simp; omega)
         ·
          rw [if_pos (Decidable.not_not.1 hne)] at hstep
          refine T.skip ?_
          refine T.region ?_
          refine LW.q rfl (Qt.move rfl) ?_
          refine LW.q rfl (Qt.add rfl rfl (wr64 (by omega) (by omega))) ?_
          refine LW.q rfl (Qt.assign rfl) ?_
          refine LW.done ?_
          refine ⟨_, ?_, _, ⟨_, i + 1, D', p, q, a, c, m', ⟨by omega, ho, hsl, hpl, by omega, by rw [← hstep]; exact hwi⟩, rfl, (updS rfl (updS rfl (updS rfl (updS rfl (updS rfl (updS rfl (updS rfl (updS rfl (updS rfl rfl))))))))), rfl⟩, Sub.any⟩
          first | omega | (simp; omega)
        ·
         obtain rfl : i = n := by omega
         rw [Nat.sub_self] at hwi
         refine T.exit ?_
         refine T.seq ?_
         refine T.draw 6 ([blk g3 [.slice p N a, .slice q m' c] 30, blk g14 [.string (strOf st), .int .u32 s.toNat, .int .i64 st.length, .int .i64 first, .int .i64 i] 35]) (by kernel_rfl) (Nat.le_of_ble_eq_true rfl) (by kernel_rfl) ?_
         first | refine RW.q 0 rfl rfl (by kernel_rfl) Sub.any (Qt.loadAgg [_, _] (by kernel_rfl) rfl ⟨rfl, rfl, trivial⟩) ?_ | refine RW.q 0 rfl rfl (by kernel_rfl) Sub.any (Qt.loadAgg [_, _] (by kernel_rfl) rfl (by exact rdl_flat _ _ _ (by intros; rfl) _ (by omega))) ?_
         first | refine RW.q 2 rfl rfl (by kernel_rfl) Sub.any (Qt.loadAgg [_, _, _, _, _] (by kernel_rfl) rfl ⟨rfl, rfl, rfl, rfl, rfl, trivial⟩) ?_ | refine RW.q 2 rfl rfl (by kernel_rfl) Sub.any (Qt.loadAgg [_, _, _, _, _] (by kernel_rfl) rfl (by exact rdl_flat _ _ _ (by intros; rfl) _ (by omega))) ?_
         refine RW.q 3 rfl rfl (by kernel_rfl) Sub.any (Qt.move rfl) ?_
         refine RW.one 1 (by kernel_rfl) ?_
         refine RO.eS rfl rfl (Ef.call (Rf.crash B p q a c N m' true (.slice none 0 0) [] 0 0 D'.secs D'.pend ho (by omega) ⟨none, 0, rfl, .inl rfl⟩) Tryz.func28 rfl rfl rfl ?_)
         rintro _ _ ⟨p1, a1, rfl, rfl⟩
         try simp only [List.cons_append, List.nil_append]
         refine ⟨Sub.any, ?_⟩
         refine RW.one 4 (by kernel_rfl) ?_
         refine RO.eS0 rfl rfl (Ef.store [_, _] (by kernel_rfl) rfl rfl rfl rfl (by simp) ?_)
         try simp only [splice, List.length_cons, List.length_nil, List.drop_succ_cons, List.cons_append, List.take_succ_cons, List.take_zero, List.drop_zero, List.nil_append, List.append_nil]
         refine ⟨Sub.any, ?_⟩
         refine RW.one 5 (by kernel_rfl) ?_
         refine RO.eS0 rfl rfl (Ef.store [_, _, _, _, _] (by kernel_rfl) rfl rfl rfl rfl (by simp) ?_)
         try simp only [splice, List.length_cons, List.length_nil, List.drop_succ_cons, List.cons_append, List.take_succ_cons, List.take_zero, List.drop_zero, List.nil_append, List.append_nil]
         refine ⟨Sub.any, ?_⟩
         refine RW.done (by rfl) ?_
         simp only [List.drop_succ_cons, List.drop_zero, List.drop_nil]
         refine LW.q rfl (Qt.assign rfl) ?_
         refine LW.q rfl (Qt.assign rfl) ?_
         refine LW.done ?_
         refine T.ret ?_
         exact ⟨.inl rfl, _, _, res [_, _, _, _] rfl ⟨rvA [_, _] (by kernel_rfl) rfl ⟨rfl, rfl, trivial⟩, rvA [_, _, _, _, _] (by kernel_rfl) rfl ⟨rfl, rfl, rfl, rfl, rfl, trivial⟩, rvT rfl, rvT rfl, trivial⟩, ROpenW.mk hal hall hst hstl hfin hnq hpl hwi (lays_all _ [] 0 0 _) rfl rfl, Sub.any⟩
      ·
       try replace hbig := of_decide_eq_false hbig
       refine LW.q rfl (Qt.move rfl) ?_
       refine LW.q rfl (Qt.convI (by kernel_rfl) (by kernel_rfl) rfl (wr64 (by omega) (by omega))) ?_
       refine LW.q rfl (Qt.move rfl) ?_
       first | refine LW.q rfl (Qt.lenSt (by kernel_rfl) rfl) ?_ | refine LW.q rfl (Qt.lenS (by kernel_rfl) rfl) ?_
       refine LW.q rfl (Qt.sub rfl rfl (wr64 (by omega) (by omega))) ?_
       refine LW.q rfl (Qt.gtr rfl rfl) ?_
       refine LW.q rfl (Qt.pick rfl rfl) ?_
       refine LW.done ?_
       refine T.condP rfl (fun hlen => ?_) (fun hlen => ?_)
       ·
        have hfin := hsc.stop (takeRec_no hnn (.inr (.inr (.inl (by omega)))))
        have hkl : st.length ≤ n * 256 := by omega
        refine T.exit ?_
        refine T.seq ?_
        refine T.region ?_
        refine LW.q rfl (Qt.fieldAddr0 (by kernel_rfl) rfl) ?_
        first | refine LW.q rfl (Qt.load (by kernel_rfl) rfl rfl) ?_ | refine LW.q rfl (Qt.load (by kernel_rfl) rfl (map_at _ _ _ (by omega))) ?_ | refine LW.q rfl (Qt.load (by kernel_rfl) rfl (flat_cell0 _ _ _ (by intros; rfl) _ (by omega) (by rfl))) ?_ | refine LW.q rfl (Qt.load (by kernel_rfl) rfl (flat_cell _ _ _ (by intros; rfl) _ _ (by omega) (by rfl))) ?_ | refine LW.q rfl (Qt.load (by kernel_rfl) rfl (bytes_at _ _ (by omega))) ?_
        first | refine LW.q rfl (Qt.lenSt (by kernel_rfl) rfl) ?_ | refine LW.q rfl (Qt.lenS (by kernel_rfl) rfl) ?_
        refine LW.q rfl (Qt.fieldAddr (off := 2) (by kernel_rfl) rfl) ?_
        refine LW.e0 rfl (Ef.store1 (by kernel_rfl) rfl rfl rfl (by first | (simp; done) | (simp; omega)) ?_)
        try simp only [List.set_cons_zero, List.set_cons_succ]
        refine LW.done ?_
        refine T.seq ?_
        refine T.seq ?_
        refine T.region ?_
        refine LW.q rfl (Qt.assign rfl) ?_
        refine LW.done ?_
        refine T.block ?_
        refine T.loop (fun mz fz lz => ∃ (f0 : Fr) (i : Nat) (D' : DD) (p q : Option Addr) (a c m' : Nat), (i ≤ n ∧ D'.Ok ∧ D'.secs.length = N ∧ D'.pend.length = m' ∧ m' ≤ m + i ∧ docWipe ⟨first, n, st, s, st.length⟩ al D' i (n - i) = docWipe ⟨first, n, st, s, st.length⟩ al D 0 n) ∧ mz = n - i ∧ fz = (upd (upd (upd (upd (upd (upd (upd (upd (upd f0 1 (.int .i64 first)) 2 (.int .i64 n)) 3 (.pointer (some ⟨g3, 0, none⟩))) 6 (.pointer (some ⟨g6, 0, none⟩))) 7 (.pointer (some ⟨g7, 0, none⟩))) 10 (.string (strOf al))) 14 (.pointer (some ⟨g14, 0, none⟩))) 15 (.slice q2 nq cq)) 20 (.int .i64 i)) ∧ lz = drecR q2 nq cq R :: rS (.slice p N a) N D'.secs :: rW (.slice q m' c) m' D'.pend :: blk g3 [.slice p N a, .slice q m' c] 30 :: blk g6 [.slice none 0 0, .slice none 0 0] 30 :: blk g7 [.string ByteArray.empty, .int .u32 0, .int .i64 0, .int .i64 0, .int .i64 0] 35 :: blk g14 [.string (strOf st), .int .u32 s.toNat, .int .i64 st.length, .int .i64 first, .int .i64 n] 35 :: F) ?_ ?_
        · refine ⟨_, _, ⟨_, 0, D, p, q, a, c, m, ⟨Nat.zero_le _, hD, hN, hm, by omega, by rw [Nat.sub_zero]⟩, rfl, (updS rfl (updS rfl (updS rfl (updS rfl (updS rfl (updS rfl (updS rfl (updS rfl (updS rfl rfl))))))))), rfl⟩, Sub.any⟩
        ·
         rintro mz fz lz ⟨f0, i, D', p, q, a, c, m', ⟨hi, ho, hsl, hpl, hpm, hwi⟩, hmz, rfl, rfl⟩
         subst mz
         try simp only [List.cons_append, List.nil_append]
         refine T.seq ?_
         refine T.seq ?_
         refine T.region ?_
         refine LW.q rfl (Qt.move rfl) ?_
         refine LW.q rfl (Qt.move rfl) ?_
         refine LW.q rfl (Qt.lss rfl rfl) ?_
         refine LW.done ?_
         refine T.condP rfl (fun hlt3 => ?_) (fun hlt3 => ?_)
         ·
          have hstep : docWipe ⟨first, n, st, s, st.length⟩ al D' i (n - i) = docWipe ⟨first, n, st, s, st.length⟩ al (if (al.take ((i + 1) * 256)).drop (i * 256) = secW st i then D' else D'.write (first + i) (secW st i)) (i + 1) (n - (i + 1)) := by rw [show n - i = (n - (i + 1)) + 1 by omega, docWipe]
          refine T.skip ?_
          refine T.seq ?_
          refine T.block ?_
          refine T.seq ?_
          refine T.drawBl 11 none (by kernel_rfl) (Nat.le_of_ble_eq_true rfl) (by kernel_rfl) ?_
          refine RW.q 0 rfl rfl (by kernel_rfl) Sub.any (Qt.move rfl) ?_
          refine RW.q 1 rfl rfl (by kernel_rfl) Sub.any (Qt.move rfl) ?_
          refine RW.q 2 rfl rfl (by kernel_rfl) Sub.any (Qt.mul rfl rfl (wr64 (by omega) (by omega))) ?_
          refine RW.q 3 rfl rfl (by kernel_rfl) Sub.any (Qt.move rfl) ?_
          refine RW.q 4 rfl rfl (by kernel_rfl) Sub.any (Qt.add rfl rfl (wr64 (by omega) (by omega))) ?_
          refine RW.q 5 rfl rfl (by kernel_rfl) Sub.any (Qt.mul rfl rfl (wr64 (by omega) (by omega))) ?_
          refine RW.q 6 rfl rfl (by kernel_rfl) Sub.any (Qt.sliceS (i * 256) ((i + 1) * 256) ((al.take ((i + 1) * 256)).drop (i * 256)) (by kernel_rfl) rfl rfl rfl (by omega) (by omega) (by omega) (by omega) rfl) ?_
          first | refine RW.q 7 rfl rfl (by kernel_rfl) Sub.any (Qt.loadAgg [_, _, _, _, _] (by kernel_rfl) rfl ⟨rfl, rfl, rfl, rfl, rfl, trivial⟩) ?_ | refine RW.q 7 rfl rfl (by kernel_rfl) Sub.any (Qt.loadAgg [_, _, _, _, _] (by kernel_rfl) rfl (by exact rdl_flat _ _ _ (by intros; rfl) _ (by omega))) ?_
          refine RW.q 8 rfl rfl (by kernel_rfl) Sub.any (Qt.move rfl) ?_
          refine RW.one 9 (by kernel_rfl) ?_
          refine RO.eS rfl rfl (Ef.call (Rl.sector B ⟨first, n, st, s, st.length⟩ i i rfl (by omega) (by show st.length < _; omega)) Tryz.func26 rfl rfl rfl ?_)
          rintro _ _ ⟨rfl, rfl⟩
          try simp only [List.cons_append, List.nil_append]
          refine ⟨Sub.any, ?_⟩
          refine RW.q 10 rfl rfl (by kernel_rfl) Sub.any (Qt.neqS rfl rfl) ?_
          refine RW.done (by rfl) ?_
          simp only [List.drop_succ_cons, List.drop_zero, List.drop_nil]
          refine LW.done ?_
          refine T.condP rfl (fun hne => ?_) (fun hne => ?_)
          ·
           rw [if_neg hne] at hstep
           refine T.drawBl 12 (some g3) (by kernel_rfl) (Nat.le_of_ble_eq_true rfl) (by kernel_rfl) ?_
           refine RW.q 1 rfl rfl (by kernel_rfl) Sub.any (Qt.move rfl) ?_
           refine RW.q 2 rfl rfl (by kernel_rfl) Sub.any (Qt.move rfl) ?_
           refine RW.q 3 rfl rfl (by kernel_rfl) Sub.any (Qt.add rfl rfl (wr64 (by omega) (by omega))) ?_
           first | refine RW.q 4 rfl rfl (by kernel_rfl) Sub.any (Qt.loadAgg [_, _, _, _, _] (by kernel_rfl) rfl ⟨rfl, rfl, rfl, rfl, rfl, trivial⟩) ?_ | refine RW.q 4 rfl rfl (by kernel_rfl) Sub.any (Qt.loadAgg [_, _, _, _, _] (by kernel_rfl) rfl (by exact rdl_flat _ _ _ (by intros; rfl) _ (by omega))) ?_
           refine RW.q 5 rfl rfl (by kernel_rfl) Sub.any (Qt.move rfl) ?_
           refine RW.all [0, 6] (by kernel_rfl) (List.forall_mem_cons.2 ⟨?_, List.forall_mem_cons.2 ⟨?_, List.forall_mem_nil _⟩⟩)
           ·
            first | refine RO.eS rfl rfl (Ef.qt (Qt.loadAgg [_, _] (by kernel_rfl) rfl ⟨rfl, rfl, trivial⟩) ?_) | refine RO.eS rfl rfl (Ef.qt (Qt.loadAgg [_, _] (by kernel_rfl) rfl (by exact rdl_flat _ _ _ (by intros; rfl) _ (by omega))) ?_)
            refine ⟨Sub.any, ?_⟩
            refine RW.one 6 (by kernel_rfl) ?_
            refine RO.eS rfl rfl (Ef.call (Rl.sector B ⟨first, n, st, s, st.length⟩ i i rfl (by omega) (by show st.length < _; omega)) Tryz.func26 rfl rfl rfl ?_)
            rintro _ _ ⟨rfl, rfl⟩
            try simp only [List.cons_append, List.nil_append]
            refine ⟨Sub.any, ?_⟩
            refine RW.one 7 (by kernel_rfl) ?_
            refine RO.eS rfl rfl (Ef.call (Rf.put B p q a c N m' (first + i) (first + i) (by omega) (secW st i) D'.secs D'.pend (by omega) (by omega) (by omega) (length_secW _ _)) Tryz.func27 rfl rfl rfl ?_)
            rintro _ _ ⟨p1, a1, q1, c1, rfl, rfl⟩
            try simp only [List.cons_append, List.nil_append]
            refine ⟨Sub.any, ?_⟩
            refine RW.q 8 rfl rfl (by kernel_rfl) Sub.any (Qt.move rfl) ?_
            refine RW.q 9 rfl rfl (by kernel_rfl) Sub.any (Qt.extract rfl rfl) ?_
            refine RW.q 10 rfl rfl (by kernel_rfl) Sub.any (Qt.extract rfl rfl) ?_
            refine RW.one 11 (by kernel_rfl) ?_
            refine RO.eS0 rfl rfl (Ef.store [_, _] (by kernel_rfl) rfl rfl rfl rfl (by simp) ?_)
            try simp only [splice, List.length_cons, List.length_nil, List.drop_succ_cons, List.cons_append, List.take_succ_cons, List.take_zero, List.drop_zero, List.nil_append, List.append_nil]
            refine ⟨Sub.any, ?_⟩
            refine RW.done (by rfl) ?_
            simp only [List.drop_succ_cons, List.drop_zero, List.drop_nil]
            refine LW.done ?_
            refine T.region ?_
            refine LW.q rfl (Qt.move rfl) ?_
            refine LW.q rfl (Qt.add rfl rfl (wr64 (by omega) (by omega))) ?_
            refine LW.q rfl (Qt.assign rfl) ?_
            refine LW.done ?_
            refine ⟨_, ?_, _, ⟨_, i + 1, ⟨D'.secs, D'.pend ++ [(first + i, secW st i)]⟩, p1, q1, a1, c1, m' + 1, ⟨by omega, ho.wr2 _ _ (by omega) (length_secW _ _), hsl, by simp [hpl], by omega, by rw [hstep] at hwi; exact hwi⟩, rfl, (updS rfl (updS rfl (updS rfl (updS rfl (updS rfl (updS rfl (updS rfl (updS rfl (updS rfl rfl))))))))), rfl⟩, Sub.any⟩
            first | omega | (simp; omega)
           ·
            refine RO.eS rfl rfl (Ef.call (Rl.sector B ⟨first, n, st, s, st.length⟩ i i rfl (by omega) (by show st.length < _; omega)) Tryz.func26 rfl rfl rfl ?_)
            rintro _ _ ⟨rfl, rfl⟩
            try simp only [List.cons_append, List.nil_append]
            refine ⟨Sub.any, ?_⟩
            refine RW.one 0 (by kernel_rfl) ?_
            first | refine RO.eS rfl rfl (Ef.qt (Qt.loadAgg [_, _] (by kernel_rfl) rfl ⟨rfl, rfl, trivial⟩) ?_) | refine RO.eS rfl rfl (Ef.qt (Qt.loadAgg [_, _] (by kernel_rfl) rfl (by exact rdl_flat _ _ _ (by intros; rfl) _ (by omega))) ?_)
            refine ⟨Sub.any, ?_⟩
            refine RW.one 7 (by kernel_rfl) ?_
            refine RO.eS rfl rfl (Ef.call (Rf.put B p q a c N m' (first + i) (first + i) (by omega) (secW st i) D'.secs D'.pend (by omega) (by omega) (by omega) (length_secW _ _)) Tryz.func27 rfl rfl rfl ?_)
            rintro _ _ ⟨p1, a1, q1, c1, rfl, rfl⟩
            try simp only [List.cons_append, List.nil_append]
            refine ⟨Sub.any, ?_⟩
            refine RW.q 8 rfl rfl (by kernel_rfl) Sub.any (Qt.move rfl) ?_
            refine RW.q 9 rfl rfl (by kernel_rfl) Sub.any (Qt.extract rfl rfl) ?_
            refine RW.q 10 rfl rfl (by kernel_rfl) Sub.any (Qt.extract rfl rfl) ?_
            refine RW.one 11 (by kernel_rfl) ?_
            refine RO.eS0 rfl rfl (Ef.store [_, _] (by kernel_rfl) rfl rfl rfl rfl (by simp) ?_)
            try simp only [splice, List.length_cons, List.length_nil, List.drop_succ_cons, List.cons_append, List.take_succ_cons, List.take_zero, List.drop_zero, List.nil_append, List.append_nil]
            refine ⟨Sub.any, ?_⟩
            refine RW.done (by rfl) ?_
            simp only [List.drop_succ_cons, List.drop_zero, List.drop_nil]
            refine LW.done ?_
            refine T.region ?_
            refine LW.q rfl (Qt.move rfl) ?_
            refine LW.q rfl (Qt.add rfl rfl (wr64 (by omega) (by omega))) ?_
            refine LW.q rfl (Qt.assign rfl) ?_
            refine LW.done ?_
            refine ⟨_, ?_, _, ⟨_, i + 1, ⟨D'.secs, D'.pend ++ [(first + i, secW st i)]⟩, p1, q1, a1, c1, m' + 1, ⟨by omega, ho.wr2 _ _ (by omega) (length_secW _ _), hsl, by simp [hpl], by omega, by rw [hstep] at hwi; exact hwi⟩, rfl, (updS rfl (updS rfl (updS rfl (updS rfl (updS rfl (updS rfl (updS rfl (updS rfl (updS rfl rfl))))))))), rfl⟩, Sub.any⟩
            first | omega | (simp; omega)
          ·
           rw [if_pos (Decidable.not_not.1 hne)] at hstep
           refine T.skip ?_
           refine T.region ?_
           refine LW.q rfl (Qt.move rfl) ?_
           refine LW.q rfl (Qt.add rfl rfl (wr64 (by omega) (by omega))) ?_
           refine LW.q rfl (Qt.assign rfl) ?_
           refine LW.done ?_
           refine ⟨_, ?_, _, ⟨_, i + 1, D', p, q, a, c, m', ⟨by omega, ho, hsl, hpl, by omega, by rw [← hstep]; exact hwi⟩, rfl, (updS rfl (updS rfl (updS rfl (updS rfl (updS rfl (updS rfl (updS rfl (updS rfl (updS rfl rfl))))))))), rfl⟩, Sub.any⟩
           first | omega | (simp; omega)
         ·
          obtain rfl : i = n := by omega
          rw [Nat.sub_self] at hwi
          refine T.exit ?_
          refine T.seq ?_
          refine T.draw 6 ([blk g3 [.slice p N a, .slice q m' c] 30, blk g14 [.string (strOf st), .int .u32 s.toNat, .int .i64 st.length, .int .i64 first, .int .i64 i] 35]) (by kernel_rfl) (Nat.le_of_ble_eq_true rfl) (by kernel_rfl) ?_
          first | refine RW.q 0 rfl rfl (by kernel_rfl) Sub.any (Qt.loadAgg [_, _] (by kernel_rfl) rfl ⟨rfl, rfl, trivial⟩) ?_ | refine RW.q 0 rfl rfl (by kernel_rfl) Sub.any (Qt.loadAgg [_, _] (by kernel_rfl) rfl (by exact rdl_flat _ _ _ (by intros; rfl) _ (by omega))) ?_
          first | refine RW.q 2 rfl rfl (by kernel_rfl) Sub.any (Qt.loadAgg [_, _, _, _, _] (by kernel_rfl) rfl ⟨rfl, rfl, rfl, rfl, rfl, trivial⟩) ?_ | refine RW.q 2 rfl rfl (by kernel_rfl) Sub.any (Qt.loadAgg [_, _, _, _, _] (by kernel_rfl) rfl (by exact rdl_flat _ _ _ (by intros; rfl) _ (by omega))) ?_
          refine RW.q 3 rfl rfl (by kernel_rfl) Sub.any (Qt.move rfl) ?_
          refine RW.one 1 (by kernel_rfl) ?_
          refine RO.eS rfl rfl (Ef.call (Rf.crash B p q a c N m' true (.slice none 0 0) [] 0 0 D'.secs D'.pend ho (by omega) ⟨none, 0, rfl, .inl rfl⟩) Tryz.func28 rfl rfl rfl ?_)
          rintro _ _ ⟨p1, a1, rfl, rfl⟩
          try simp only [List.cons_append, List.nil_append]
          refine ⟨Sub.any, ?_⟩
          refine RW.one 4 (by kernel_rfl) ?_
          refine RO.eS0 rfl rfl (Ef.store [_, _] (by kernel_rfl) rfl rfl rfl rfl (by simp) ?_)
          try simp only [splice, List.length_cons, List.length_nil, List.drop_succ_cons, List.cons_append, List.take_succ_cons, List.take_zero, List.drop_zero, List.nil_append, List.append_nil]
          refine ⟨Sub.any, ?_⟩
          refine RW.one 5 (by kernel_rfl) ?_
          refine RO.eS0 rfl rfl (Ef.store [_, _, _, _, _] (by kernel_rfl) rfl rfl rfl rfl (by simp) ?_)
          try simp only [splice, List.length_cons, List.length_nil, List.drop_succ_cons, List.cons_append, List.take_succ_cons, List.take_zero, List.drop_zero, List.nil_append, List.append_nil]
          refine ⟨Sub.any, ?_⟩
          refine RW.done (by rfl) ?_
          simp only [List.drop_succ_cons, List.drop_zero, List.drop_nil]
          refine LW.q rfl (Qt.assign rfl) ?_
          refine LW.q rfl (Qt.assign rfl) ?_
          refine LW.done ?_
          refine T.ret ?_
          exact ⟨.inl rfl, _, _, res [_, _, _, _] rfl ⟨rvA [_, _] (by kernel_rfl) rfl ⟨rfl, rfl, trivial⟩, rvA [_, _, _, _, _] (by kernel_rfl) rfl ⟨rfl, rfl, rfl, rfl, rfl, trivial⟩, rvT rfl, rvT rfl, trivial⟩, ROpenW.mk hal hall hst hstl hfin hnq hpl hwi (lays_all _ [] 0 0 _) rfl rfl, Sub.any⟩
       ·
        obtain ⟨st2, s2, hadd, hl2, hcase⟩ := docTake (first := first) (count := n) (dur := 0) (s := s) hnn (by omega) (by omega) (by omega) (by omega) hal
        rw [← hst] at hadd
        obtain ⟨d, hd⟩ : ∃ d, ((al.drop k).take (8 + nn)).drop 8 = d := ⟨_, rfl⟩
        rw [hd] at hadd
        have hdlen : d.length = nn := by rw [← hd]; simp; omega
        refine T.skip ?_
        refine T.seq ?_
        refine T.drawBl 12 none (by kernel_rfl) (Nat.le_of_ble_eq_true rfl) (by kernel_rfl) ?_
        first | refine RW.q 0 rfl rfl (by kernel_rfl) Sub.any (Qt.loadAgg [_, _, _, _, _] (by kernel_rfl) rfl ⟨rfl, rfl, rfl, rfl, rfl, trivial⟩) ?_ | refine RW.q 0 rfl rfl (by kernel_rfl) Sub.any (Qt.loadAgg [_, _, _, _, _] (by kernel_rfl) rfl (by exact rdl_flat _ _ _ (by intros; rfl) _ (by omega))) ?_
        refine RW.q 1 rfl rfl (by kernel_rfl) Sub.any (Qt.move rfl) ?_
        refine RW.q 2 rfl rfl (by kernel_rfl) Sub.any (Qt.move rfl) ?_
        refine RW.q 3 rfl rfl (by kernel_rfl) Sub.any (Qt.convI (by kernel_rfl) (by kernel_rfl) rfl (wr64 (by omega) (by omega))) ?_
        refine RW.q 4 rfl rfl (by kernel_rfl) Sub.any (Qt.add rfl rfl (wr64 (by omega) (by omega))) ?_
        refine RW.q 5 rfl rfl (by kernel_rfl) Sub.any (Qt.sliceS 8 (8 + nn) d (by kernel_rfl) rfl rfl rfl rfl (by omega) (by omega) (by omega) hd) ?_
        refine RW.all [6, 10] (by kernel_rfl) (List.forall_mem_cons.2 ⟨?_, List.forall_mem_cons.2 ⟨?_, List.forall_mem_nil _⟩⟩)
        ·
         refine RO.eS rfl rfl (Ef.call (Rl.add B ⟨first, n, st, s, 0⟩ d (by show n ≤ 4096; omega) (by show st.length ≤ n * 256; omega) (by omega)) Tryz.func25 rfl rfl rfl ?_)
         rintro _ _ ⟨rfl, rfl⟩
         try simp only [List.cons_append, List.nil_append]
         simp only [hadd]
         refine ⟨Sub.any, ?_⟩
         refine RW.q 7 rfl rfl (by kernel_rfl) Sub.any (Qt.move rfl) ?_
         refine RW.q 8 rfl rfl (by kernel_rfl) Sub.any (Qt.extract rfl rfl) ?_
         refine RW.q 9 rfl rfl (by kernel_rfl) Sub.any (Qt.extract rfl rfl) ?_
         refine RW.one 10 (by kernel_rfl) ?_
         refine RO.eS rfl rfl (Ef.alloc [.string .empty, .int .u32 0, .int .i64 0, .int .i64 0, .int .i64 0] (by unfold zeroB; kernel_rfl) ?_)
         intro g18
         refine ⟨Sub.any, ?_⟩
         refine RW.one 11 (by kernel_rfl) ?_
         refine RO.eS0 rfl rfl (Ef.store [_, _, _, _, _] (by kernel_rfl) rfl rfl rfl rfl (by simp) ?_)
         try simp only [splice, List.length_cons, List.length_nil, List.drop_succ_cons, List.cons_append, List.take_succ_cons, List.take_zero, List.drop_zero, List.nil_append, List.append_nil]
         refine ⟨Sub.any, ?_⟩
         refine RW.done (by rfl) ?_
         simp only [List.drop_succ_cons, List.drop_zero, List.drop_nil]
         refine LW.q rfl (Qt.assign rfl) ?_
         refine LW.done ?_
         refine T.seq ?_
         refine T.seq ?_
         refine T.drawAll 8 (by kernel_rfl) (Nat.le_of_ble_eq_true rfl) (by kernel_rfl) ?_
         refine RW.q 0 rfl rfl (by kernel_rfl) (Sub.refl _) (Qt.fieldAddr0 (by kernel_rfl) rfl) ?_
         first | refine RW.q 1 rfl rfl (by kernel_rfl) (Sub.refl _) (Qt.load (by kernel_rfl) rfl rfl) ?_ | refine RW.q 1 rfl rfl (by kernel_rfl) (Sub.refl _) (Qt.load (by kernel_rfl) rfl (map_at _ _ _ (by omega))) ?_ | refine RW.q 1 rfl rfl (by kernel_rfl) (Sub.refl _) (Qt.load (by kernel_rfl) rfl (flat_cell0 _ _ _ (by intros; rfl) _ (by omega) (by rfl))) ?_ | refine RW.q 1 rfl rfl (by kernel_rfl) (Sub.refl _) (Qt.load (by kernel_rfl) rfl (flat_cell _ _ _ (by intros; rfl) _ _ (by omega) (by rfl))) ?_ | refine RW.q 1 rfl rfl (by kernel_rfl) (Sub.refl _) (Qt.load (by kernel_rfl) rfl (bytes_at _ _ (by omega))) ?_
         refine RW.q 2 rfl rfl (by kernel_rfl) (Sub.refl _) (Qt.move rfl) ?_
         refine RW.q 3 rfl rfl (by kernel_rfl) (Sub.refl _) (Qt.fieldAddr0 (by kernel_rfl) rfl) ?_
         first | refine RW.q 4 rfl rfl (by kernel_rfl) (Sub.refl _) (Qt.load (by kernel_rfl) rfl rfl) ?_ | refine RW.q 4 rfl rfl (by kernel_rfl) (Sub.refl _) (Qt.load (by kernel_rfl) rfl (map_at _ _ _ (by omega))) ?_ | refine RW.q 4 rfl rfl (by kernel_rfl) (Sub.refl _) (Qt.load (by kernel_rfl) rfl (flat_cell0 _ _ _ (by intros; rfl) _ (by omega) (by rfl))) ?_ | refine RW.q 4 rfl rfl (by kernel_rfl) (Sub.refl _) (Qt.load (by kernel_rfl) rfl (flat_cell _ _ _ (by intros; rfl) _ _ (by omega) (by rfl))) ?_ | refine RW.q 4 rfl rfl (by kernel_rfl) (Sub.refl _) (Qt.load (by kernel_rfl) rfl (bytes_at _ _ (by omega))) ?_
         first | refine RW.q 5 rfl rfl (by kernel_rfl) (Sub.refl _) (Qt.lenSt (by kernel_rfl) rfl) ?_ | refine RW.q 5 rfl rfl (by kernel_rfl) (Sub.refl _) (Qt.lenS (by kernel_rfl) rfl) ?_
         refine RW.q 6 rfl rfl (by kernel_rfl) (Sub.refl _) (Qt.sliceS_ns (k + (8 + nn)) (by kernel_rfl) rfl rfl (by omega) (by omega)) ?_
         refine RW.q 7 rfl rfl (by kernel_rfl) (Sub.refl _) (Qt.neqS rfl rfl) ?_
         refine RW.done (by rfl) ?_
         simp only [List.drop_succ_cons, List.drop_zero, List.drop_nil]
         refine LW.done ?_
         refine T.condP rfl (fun hne => ?_) (fun hne => ?_)
         ·
          have ht : takeRec al k s = none := by rcases hcase with h | h; exact absurd h.1 hne; exact h.2
          have hfin := hsc.stop ht
          have hkl : st.length ≤ n * 256 := by omega
          refine T.exit ?_
          refine T.seq ?_
          refine T.region ?_
          refine LW.q rfl (Qt.fieldAddr0 (by kernel_rfl) rfl) ?_
          first | refine LW.q rfl (Qt.load (by kernel_rfl) rfl rfl) ?_ | refine LW.q rfl (Qt.load (by kernel_rfl) rfl (map_at _ _ _ (by omega))) ?_ | refine LW.q rfl (Qt.load (by kernel_rfl) rfl (flat_cell0 _ _ _ (by intros; rfl) _ (by omega) (by rfl))) ?_ | refine LW.q rfl (Qt.load (by kernel_rfl) rfl (flat_cell _ _ _ (by intros; rfl) _ _ (by omega) (by rfl))) ?_ | refine LW.q rfl (Qt.load (by kernel_rfl) rfl (bytes_at _ _ (by omega))) ?_
          first | refine LW.q rfl (Qt.lenSt (by kernel_rfl) rfl) ?_ | refine LW.q rfl (Qt.lenS (by kernel_rfl) rfl) ?_
          refine LW.q rfl (Qt.fieldAddr (off := 2) (by kernel_rfl) rfl) ?_
          refine LW.e0 rfl (Ef.store1 (by kernel_rfl) rfl rfl rfl (by first | (simp; done) | (simp; omega)) ?_)
          try simp only [List.set_cons_zero, List.set_cons_succ]
          refine LW.done ?_
          refine T.seq ?_
          refine T.seq ?_
          refine T.region ?_
          refine LW.q rfl (Qt.assign rfl) ?_
          refine LW.done ?_
          refine T.block ?_
          refine T.loop (fun mz fz lz => ∃ (f0 : Fr) (i : Nat) (D' : DD) (p q : Option Addr) (a c m' : Nat), (i ≤ n ∧ D'.Ok ∧ D'.secs.length = N ∧ D'.pend.length = m' ∧ m' ≤ m + i ∧ docWipe ⟨first, n, st, s, st.length⟩ al D' i (n - i) = docWipe ⟨first, n, st, s, st.length⟩ al D 0 n) ∧ mz = n - i ∧ fz = (upd (upd (upd (upd (upd (upd (upd (upd (upd f0 1 (.int .i64 first)) 2 (.int .i64 n)) 3 (.pointer (some ⟨g3, 0, none⟩))) 6 (.pointer (some ⟨g6, 0, none⟩))) 7 (.pointer (some ⟨g7, 0, none⟩))) 10 (.string (strOf al))) 14 (.pointer (some ⟨g14, 0, none⟩))) 15 (.slice q2 nq cq)) 20 (.int .i64 i)) ∧ lz = drecR q2 nq cq R :: rS (.slice p N a) N D'.secs :: rW (.slice q m' c) m' D'.pend :: blk g3 [.slice p N a, .slice q m' c] 30 :: blk g6 [.slice none 0 0, .slice none 0 0] 30 :: blk g7 [.string ByteArray.empty, .int .u32 0, .int .i64 0, .int .i64 0, .int .i64 0] 35 :: blk g14 [.string (strOf st), .int .u32 s.toNat, .int .i64 st.length, .int .i64 first, .int .i64 n] 35 :: F) ?_ ?_
          · refine ⟨_, _, ⟨_, 0, D, p, q, a, c, m, ⟨Nat.zero_le _, hD, hN, hm, by omega, by rw [Nat.sub_zero]⟩, rfl, (updS rfl (updS rfl (updS rfl (updS rfl (updS rfl (updS rfl (updS rfl (updS rfl (updS rfl rfl))))))))), rfl⟩, Sub.any⟩
          ·
           rintro mz fz lz ⟨f0, i, D', p, q, a, c, m', ⟨hi, ho, hsl, hpl, hpm, hwi⟩, hmz, rfl, rfl⟩
           subst mz
           try simp only [List.cons_append, List.nil_append]
           refine T.seq ?_
           refine T.seq ?_
           refine T.region ?_
           refine LW.q rfl (Qt.move rfl) ?_
           refine LW.q rfl (Qt.move rfl) ?_
           refine LW.q rfl (Qt.lss rfl rfl) ?_
           refine LW.done ?_
           refine T.condP rfl (fun hlt3 => ?_) (fun hlt3 => ?_)
           ·
            have hstep : docWipe ⟨first, n, st, s, st.length⟩ al D' i (n - i) = docWipe ⟨first, n, st, s, st.length⟩ al (if (al.take ((i + 1) * 256)).drop (i * 256) = secW st i then D' else D'.write (first + i) (secW st i)) (i + 1) (n - (i + 1)) := by rw [show n - i = (n - (i + 1)) + 1 by omega, docWipe]
            refine T.skip ?_
            refine T.seq ?_
            refine T.block ?_
            refine T.seq ?_
            refine T.drawBl 11 none (by kernel_rfl) (Nat.le_of_ble_eq_true rfl) (by kernel_rfl) ?_
            refine RW.q 0 rfl rfl (by kernel_rfl) Sub.any (Qt.move rfl) ?_
            refine RW.q 1 rfl rfl (by kernel_rfl) Sub.any (Qt.move rfl) ?_
            refine RW.q 2 rfl rfl (by kernel_rfl) Sub.any (Qt.mul rfl rfl (wr64 (by omega) (by omega))) ?_
            refine RW.q 3 rfl rfl (by kernel_rfl) Sub.any (Qt.move rfl) ?_
            refine RW.q 4 rfl rfl (by kernel_rfl) Sub.any (Qt.add rfl rfl (wr64 (by omega) (by omega))) ?_
            refine RW.q 5 rfl rfl (by kernel_rfl) Sub.any (Qt.mul rfl rfl (wr64 (by omega) (by omega))) ?_
            refine RW.q 6 rfl rfl (by kernel_rfl) Sub.any (Qt.sliceS (i * 256) ((i + 1) * 256) ((al.take ((i + 1) * 256)).drop (i * 256)) (by kernel_rfl) rfl rfl rfl (by omega) (by omega) (by omega) (by omega) rfl) ?_
            first | refine RW.q 7 rfl rfl (by kernel_rfl) Sub.any (Qt.loadAgg [_, _, _, _, _] (by kernel_rfl) rfl ⟨rfl, rfl, rfl, rfl, rfl, trivial⟩) ?_ | refine RW.q 7 rfl rfl (by kernel_rfl) Sub.any (Qt.loadAgg [_, _, _, _, _] (by kernel_rfl) rfl (by exact rdl_flat _ _ _ (by intros; rfl) _ (by omega))) ?_
            refine RW.q 8 rfl rfl (by kernel_rfl) Sub.any (Qt.move rfl) ?_
            refine RW.one 9 (by kernel_rfl) ?_
            refine RO.eS rfl rfl (Ef.call (Rl.sector B ⟨first, n, st, s, st.length⟩ i i rfl (by omega) (by show st.length < _; omega)) Tryz.func26 rfl rfl rfl ?_)
            rintro _ _ ⟨rfl, rfl⟩
            try simp only [List.cons_append, List.nil_append]
            refine ⟨Sub.any, ?_⟩
            refine RW.q 10 rfl rfl (by kernel_rfl) Sub.any (Qt.neqS rfl rfl) ?_
            refine RW.done (by rfl) ?_
            simp only [List.drop_succ_cons, List.drop_zero, List.drop_nil]
            refine LW.done ?_
            refine T.condP rfl (fun hne => ?_) (fun hne => ?_)
            ·
             rw [if_neg hne] at hstep
             refine T.drawBl 12 (some g3) (by kernel_rfl) (Nat.le_of_ble_eq_true rfl) (by kernel_rfl) ?_
             refine RW.q 1 rfl rfl (by kernel_rfl) Sub.any (Qt.move rfl) ?_
             refine RW.q 2 rfl rfl (by kernel_rfl) Sub.any (Qt.move rfl) ?_
             refine RW.q 3 rfl rfl (by kernel_rfl) Sub.any (Qt.add rfl rfl (wr64 (by omega) (by omega))) ?_
             first | refine RW.q 4 rfl rfl (by kernel_rfl) Sub.any (Qt.loadAgg [_, _, _, _, _] (by kernel_rfl) rfl ⟨rfl, rfl, rfl, rfl, rfl, trivial⟩) ?_ | refine RW.q 4 rfl rfl (by kernel_rfl) Sub.any (Qt.loadAgg [_, _, _, _, _] (by kernel_rfl) rfl (by exact rdl_flat _ _ _ (by intros; rfl) _ (by omega))) ?_
             refine RW.q 5 rfl rfl (by kernel_rfl) Sub.any (Qt.move rfl) ?_
             refine RW.all [0, 6] (by kernel_rfl) (List.forall_mem_cons.2 ⟨?_, List.forall_mem_cons.2 ⟨?_, List.forall_mem_nil _⟩⟩)
             ·
              first | refine RO.eS rfl rfl (Ef.qt (Qt.loadAgg [_, _] (by kernel_rfl) rfl ⟨rfl, rfl, trivial⟩) ?_) | refine RO.eS rfl rfl (Ef.qt (Qt.loadAgg [_, _] (by kernel_rfl) rfl (by exact rdl_flat _ _ _ (by intros; rfl) _ (by omega))) ?_)
              refine ⟨Sub.any, ?_⟩
              refine RW.one 6 (by kernel_rfl) ?_
              refine RO.eS rfl rfl (Ef.call (Rl.sector B ⟨first, n, st, s, st.length⟩ i i rfl (by omega) (by show st.length < _; omega)) Tryz.func26 rfl rfl rfl ?_)
              rintro _ _ ⟨rfl, rfl⟩
              try simp only [List.cons_append, List.nil_append]
              refine ⟨Sub.any, ?_⟩
              refine RW.one 7 (by kernel_rfl) ?_
              refine RO.eS rfl rfl (Ef.call (Rf.put B p q a c N m' (first + i) (first + i) (by omega) (secW st i) D'.secs D'.pend (by omega) (by omega) (by omega) (length_secW _ _)) Tryz.func27 rfl rfl rfl ?_)
              rintro _ _ ⟨p1, a1, q1, c1, rfl, rfl⟩
              try simp only [List.cons_append, List.nil_append]
              refine ⟨Sub.any, ?_⟩
              refine RW.q 8 rfl rfl (by kernel_rfl) Sub.any (Qt.move rfl) ?_
              refine RW.q 9 rfl rfl (by kernel_rfl) Sub.any (Qt.extract rfl rfl) ?_
              refine RW.q 10 rfl rfl (by kernel_rfl) Sub.any (Qt.extract rfl rfl) ?_
              refine RW.one 11 (by kernel_rfl) ?_
              refine RO.eS0 rfl rfl (Ef.store [_, _] (by kernel_rfl) rfl rfl rfl rfl (by simp) ?_)
              try simp only [splice, List.length_cons, List.length_nil, List.drop_succ_cons, List.cons_append, List.take_succ_cons, List.take_zero, List.drop_zero, List.nil_append, List.append_nil]
              refine ⟨Sub.any, ?_⟩
              refine RW.done (by rfl) ?_
              simp only [List.drop_succ_cons, List.drop_zero, List.drop_nil]
              refine LW.done ?_
              refine T.region ?_
              refine LW.q rfl (Qt.move rfl) ?_
              refine LW.q rfl (Qt.add rfl rfl (wr64 (by omega) (by omega))) ?_
              refine LW.q rfl (Qt.assign rfl) ?_
              refine LW.done ?_
              refine ⟨_, ?_, _, ⟨_, i + 1, ⟨D'.secs, D'.pend ++ [(first + i, secW st i)]⟩, p1, q1, a1, c1, m' + 1, ⟨by omega, ho.wr2 _ _ (by omega) (length_secW _ _), hsl, by simp [hpl], by omega, by rw [hstep] at hwi; exact hwi⟩, rfl, (updS rfl (updS rfl (updS rfl (updS rfl (updS rfl (updS rfl (updS rfl (updS rfl (updS rfl rfl))))))))), rfl⟩, Sub.any⟩
              first | omega | (simp; omega)
             ·
              refine RO.eS rfl rfl (Ef.call (Rl.sector B ⟨first, n, st, s, st.length⟩ i i rfl (by omega) (by show st.length < _; omega)) Tryz.func26 rfl rfl rfl ?_)
              rintro _ _ ⟨rfl, rfl⟩
              try simp only [List.cons_append, List.nil_append]
              refine ⟨Sub.any, ?_⟩
              refine RW.one 0 (by kernel_rfl) ?_
              first | refine RO.eS rfl rfl (Ef.qt (Qt.loadAgg [_, _] (by kernel_rfl) rfl ⟨rfl, rfl, trivial⟩) ?_) | refine RO.eS rfl rfl (Ef.qt (Qt.loadAgg [_, _] (by kernel_rfl) rfl (by exact rdl_flat _ _ _ (by intros; rfl) _ (by omega))) ?_)
              refine ⟨Sub.any, ?_⟩
              refine RW.one 7 (by kernel_rfl) ?_
              refine RO.eS rfl rfl (Ef.call (Rf.put B p q a c N m' (first + i) (first + i) (by omega) (secW st i) D'.secs D'.pend (by omega) (by omega) (by omega) (length_secW _ _)) Tryz.func27 rfl rfl rfl ?_)
              rintro _ _ ⟨p1, a1, q1, c1, rfl, rfl⟩
              try simp only [List.cons_append, List.nil_append]
              refine ⟨Sub.any, ?_⟩
              refine RW.q 8 rfl rfl (by kernel_rfl) Sub.any (Qt.move rfl) ?_
              refine RW.q 9 rfl rfl (by kernel_rfl) Sub.any (Qt.extract rfl rfl) ?_
              refine RW.q 10 rfl rfl (by kernel_rfl) Sub.any (Qt.extract rfl rfl) ?_
              refine RW.one 11 (by kernel_rfl) ?_
              refine RO.eS0 rfl rfl (Ef.store [_, _] (by kernel_rfl) rfl rfl rfl rfl (by simp) ?_)
              try simp only [splice, List.length_cons, List.length_nil, List.drop_succ_cons, List.cons_append, List.take_succ_cons, List.take_zero, List.drop_zero, List.nil_append, List.append_nil]
              refine ⟨Sub.any, ?_⟩
              refine RW.done (by rfl) ?_
              simp only [List.drop_succ_cons, List.drop_zero, List.drop_nil]
              refine LW.done ?_
              refine T.region ?_
              refine LW.q rfl (Qt.move rfl) ?_
              refine LW.q rfl (Qt.add rfl rfl (wr64 (by omega) (by omega))) ?_
              refine LW.q rfl (Qt.assign rfl) ?_
              refine LW.done ?_
              refine ⟨_, ?_, _, ⟨_, i + 1, ⟨D'.secs, D'.pend ++ [(first + i, secW st i)]⟩, p1, q1, a1, c1, m' + 1, ⟨by omega, ho.wr2 _ _ (by omega) (length_secW _ _), hsl, by simp [hpl], by omega, by rw [hstep] at hwi; exact hwi⟩, rfl, (updS rfl (updS rfl (updS rfl (updS rfl (updS rfl (updS rfl (updS rfl (updS rfl (updS rfl rfl))))))))), rfl⟩, Sub.any⟩
              first | omega | (simp; omega)
            ·
             rw [if_pos (Decidable.not_not.1 hne)] at hstep
             refine T.skip ?_
             refine T.region ?_
             refine LW.q rfl (Qt.move rfl) ?_
             refine LW.q rfl (Qt.add rfl rfl (wr64 (by omega) (by omega))) ?_
             refine LW.q rfl (Qt.assign rfl) ?_
             refine LW.done ?_
             refine ⟨_, ?_, _, ⟨_, i + 1, D', p, q, a, c, m', ⟨by omega, ho, hsl, hpl, by omega, by rw [← hstep]; exact hwi⟩, rfl, (updS rfl (updS rfl (updS rfl (updS rfl (updS rfl (updS rfl (updS rfl (updS rfl (updS rfl rfl))))))))), rfl⟩, Sub.any⟩
             first | omega | (simp; omega)
           ·
            obtain rfl : i = n := by omega
            rw [Nat.sub_self] at hwi
            refine T.exit ?_
            refine T.seq ?_
            refine T.draw 6 ([blk g3 [.slice p N a, .slice q m' c] 30, blk g14 [.string (strOf st), .int .u32 s.toNat, .int .i64 st.length, .int .i64 first, .int .i64 i] 35]) (by kernel_rfl) (Nat.le_of_ble_eq_true rfl) (by kernel_rfl) ?_
            first | refine RW.q 0 rfl rfl (by kernel_rfl) Sub.any (Qt.loadAgg [_, _] (by kernel_rfl) rfl ⟨rfl, rfl, trivial⟩) ?_ | refine RW.q 0 rfl rfl (by kernel_rfl) Sub.any (Qt.loadAgg [_, _] (by kernel_rfl) rfl (by exact rdl_flat _ _ _ (by intros; rfl) _ (by omega))) ?_
            first | refine RW.q 2 rfl rfl (by kernel_rfl) Sub.any (Qt.loadAgg [_, _, _, _, _] (by kernel_rfl) rfl ⟨rfl, rfl, rfl, rfl, rfl, trivial⟩) ?_ | refine RW.q 2 rfl rfl (by kernel_rfl) Sub.any (Qt.loadAgg [_, _, _, _, _] (by kernel_rfl) rfl (by exact rdl_flat _ _ _ (by intros; rfl) _ (by omega))) ?_
            refine RW.q 3 rfl rfl (by kernel_rfl) Sub.any (Qt.move rfl) ?_
            refine RW.one 1 (by kernel_rfl) ?_
            refine RO.eS rfl rfl (Ef.call (Rf.crash B p q a c N m' true (.slice none 0 0) [] 0 0 D'.secs D'.pend ho (by omega) ⟨none, 0, rfl, .inl rfl⟩) Tryz.func28 rfl rfl rfl ?_)
            rintro _ _ ⟨p1, a1, rfl, rfl⟩
            try simp only [List.cons_append, List.nil_append]
            refine ⟨Sub.any, ?_⟩
            refine RW.one 4 (by kernel_rfl) ?_
            refine RO.eS0 rfl rfl (Ef.store [_, _] (by kernel_rfl) rfl rfl rfl rfl (by simp) ?_)
            try simp only [splice, List.length_cons, List.length_nil, List.drop_succ_cons, List.cons_append, List.take_succ_cons, List.take_zero, List.drop_zero, List.nil_append, List.append_nil]
            refine ⟨Sub.any, ?_⟩
            refine RW.one 5 (by kernel_rfl) ?_
            refine RO.eS0 rfl rfl (Ef.store [_, _, _, _, _] (by kernel_rfl) rfl rfl rfl rfl (by simp) ?_)
            try simp only [splice, List.length_cons, List.length_nil, List.drop_succ_cons, List.cons_append, List.take_succ_cons, List.take_zero, List.drop_zero, List.nil_append, List.append_nil]
            refine ⟨Sub.any, ?_⟩
            refine RW.done (by rfl) ?_
            simp only [List.drop_succ_cons, List.drop_zero, List.drop_nil]
            refine LW.q rfl (Qt.assign rfl) ?_
            refine LW.q rfl (Qt.assign rfl) ?_
            refine LW.done ?_
            refine T.ret ?_
            exact ⟨.inl rfl, _, _, res [_, _, _, _] rfl ⟨rvA [_, _] (by kernel_rfl) rfl ⟨rfl, rfl, trivial⟩, rvA [_, _, _, _, _] (by kernel_rfl) rfl ⟨rfl, rfl, rfl, rfl, rfl, trivial⟩, rvT rfl, rvT rfl, trivial⟩, ROpenW.mk hal hall hst hstl hfin hnq hpl hwi (lays_all _ [] 0 0 _) rfl rfl, Sub.any⟩
         ·
          have ht : takeRec al k s = some (nn, s2) := by rcases hcase with h | h; exact h.2; exact absurd h.1 hne
          have he : st2 = al.take (k + (8 + nn)) := Decidable.not_not.1 hne
          refine T.skip ?_
          refine T.seq ?_
          refine T.region ?_
          first | refine LW.q rfl (Qt.loadAgg [_, _, _, _, _] (by kernel_rfl) rfl ⟨rfl, rfl, rfl, rfl, rfl, trivial⟩) ?_ | refine LW.q rfl (Qt.loadAgg [_, _, _, _, _] (by kernel_rfl) rfl (by exact rdl_flat _ _ _ (by intros; rfl) _ (by omega))) ?_
          refine LW.e0 rfl (Ef.store [_, _, _, _, _] (by kernel_rfl) rfl rfl rfl rfl (by simp) ?_)
          try simp only [splice, List.length_cons, List.length_nil, List.drop_succ_cons, List.cons_append, List.take_succ_cons, List.take_zero, List.drop_zero, List.nil_append, List.append_nil]
          refine LW.done ?_
          refine T.drawBl 12 none (by kernel_rfl) (Nat.le_of_ble_eq_true rfl) (by kernel_rfl) ?_
          refine RW.q 0 rfl rfl (by kernel_rfl) Sub.any (Qt.move rfl) ?_
          refine RW.q 1 rfl rfl (by kernel_rfl) Sub.any (Qt.fieldAddr0 (by kernel_rfl) rfl) ?_
          first | refine RW.q 2 rfl rfl (by kernel_rfl) Sub.any (Qt.load (by kernel_rfl) rfl rfl) ?_ | refine RW.q 2 rfl rfl (by kernel_rfl) Sub.any (Qt.load (by kernel_rfl) rfl (map_at _ _ _ (by omega))) ?_ | refine RW.q 2 rfl rfl (by kernel_rfl) Sub.any (Qt.load (by kernel_rfl) rfl (flat_cell0 _ _ _ (by intros; rfl) _ (by omega) (by rfl))) ?_ | refine RW.q 2 rfl rfl (by kernel_rfl) Sub.any (Qt.load (by kernel_rfl) rfl (flat_cell _ _ _ (by intros; rfl) _ _ (by omega) (by rfl))) ?_ | refine RW.q 2 rfl rfl (by kernel_rfl) Sub.any (Qt.load (by kernel_rfl) rfl (bytes_at _ _ (by omega))) ?_
          first | refine RW.q 3 rfl rfl (by kernel_rfl) Sub.any (Qt.lenSt (by kernel_rfl) rfl) ?_ | refine RW.q 3 rfl rfl (by kernel_rfl) Sub.any (Qt.lenS (by kernel_rfl) rfl) ?_
          refine RW.q 4 rfl rfl (by kernel_rfl) Sub.any (Qt.move rfl) ?_
          refine RW.q 5 rfl rfl (by kernel_rfl) Sub.any (Qt.move rfl) ?_
          refine RW.q 6 rfl rfl (by kernel_rfl) Sub.any (Qt.convI (by kernel_rfl) (by kernel_rfl) rfl (wr64 (by omega) (by omega))) ?_
          refine RW.q 7 rfl rfl (by kernel_rfl) Sub.any (Qt.add rfl rfl (wr64 (by omega) (by omega))) ?_
          refine RW.q 8 rfl rfl (by kernel_rfl) Sub.any (Qt.sliceS 8 (8 + nn) d (by kernel_rfl) rfl rfl rfl rfl (by omega) (by omega) (by omega) hd) ?_
          refine RW.q 9 rfl rfl (by kernel_rfl) Sub.any (Qt.build [(0, 1), (1, 1)] [.int .i64 0, .string .empty] [_, _] [(0, _), (1, _)] (by kernel_rfl) (by unfold zeroB; kernel_rfl) rfl rfl) ?_
          refine RW.one 10 (by kernel_rfl) ?_
          refine RO.eS rfl rfl (Ef.one [_, _] (e := 85) (sz := 2) (by kernel_rfl) ⟨.agg #[.int .i64 0, .string .empty], by kernel_rfl, rfl⟩ rfl rfl rfl (by omega) (by omega) ?_)
          intro g118
          refine ⟨Sub.any, ?_⟩
          refine RW.one 11 (by kernel_rfl) ?_
          refine RO.eS rfl rfl (Ef.append Rl.elemR rfl rfl (SrcOf.blk (by kernel_rfl) rfl (by simp [Value.oneCell'])) (by unfold maxLen; omega) (by omega) ?_)
          rintro p6 c6 hp6
          try simp only [List.cons_append, List.nil_append]
          rw [show [Value.int .i64 (st2.length : Int), Value.string (strOf d)] = drecC (st2.length, d) from rfl, flat_snoc]
          refine ⟨Sub.any, ?_⟩
          refine RW.done (by rfl) ?_
          simp only [List.drop_succ_cons, List.drop_zero, List.drop_nil]
          refine LW.q rfl (Qt.assign rfl) ?_
          refine LW.done ?_
          have hsc2 := hsc.next hk ht
          rw [hd, ← hl2] at hsc2
          refine ⟨_, ?_, _, ⟨_, st2.length, st2, s2, R ++ [(st2.length, d)], p6, c6, nq + 1, ⟨by omega, by rw [hl2]; exact he, rfl, by simp [hnq], by omega, hsc2⟩, rfl, (updS rfl (updS rfl (updS rfl (updS rfl (updS rfl (updS rfl (updS rfl (updS rfl rfl)))))))), rfl⟩, Sub.any⟩
          first | omega | (simp; omega)
        ·
         refine RO.eS rfl rfl (Ef.alloc [.string .empty, .int .u32 0, .int .i64 0, .int .i64 0, .int .i64 0] (by unfold zeroB; kernel_rfl) ?_)
         intro g18
         refine ⟨Sub.any, ?_⟩
         refine RW.one 6 (by kernel_rfl) ?_
         refine RO.eS rfl rfl (Ef.call (Rl.add B ⟨first, n, st, s, 0⟩ d (by show n ≤ 4096; omega) (by show st.length ≤ n * 256; omega) (by omega)) Tryz.func25 rfl rfl rfl ?_)
         rintro _ _ ⟨rfl, rfl⟩
         try simp only [List.cons_append, List.nil_append]
         simp only [hadd]
         refine ⟨Sub.any, ?_⟩
         refine RW.q 7 rfl rfl (by kernel_rfl) Sub.any (Qt.move rfl) ?_
         refine RW.q 8 rfl rfl (by kernel_rfl) Sub.any (Qt.extract rfl rfl) ?_
         refine RW.q 9 rfl rfl (by kernel_rfl) Sub.any (Qt.extract rfl rfl) ?_
         refine RW.one 11 (by kernel_rfl) ?_
         refine RO.eS0 rfl rfl (Ef.store [_, _, _, _, _] (by kernel_rfl) rfl rfl rfl rfl (by simp) ?_)
         try simp only [splice, List.length_cons, List.length_nil, List.drop_succ_cons, List.cons_append, List.take_succ_cons, List.take_zero, List.drop_zero, List.nil_append, List.append_nil]
         refine ⟨Sub.any, ?_⟩
         refine RW.done (by rfl) ?_
         simp only [List.drop_succ_cons, List.drop_zero, List.drop_nil]
         refine LW.q rfl (Qt.assign rfl) ?_
         refine LW.done ?_
         refine T.seq ?_
         refine T.seq ?_
         refine T.drawAll 8 (by kernel_rfl) (Nat.le_of_ble_eq_true rfl) (by kernel_rfl) ?_
         refine RW.q 0 rfl rfl (by kernel_rfl) (Sub.refl _) (Qt.fieldAddr0 (by kernel_rfl) rfl) ?_
         first | refine RW.q 1 rfl rfl (by kernel_rfl) (Sub.refl _) (Qt.load (by kernel_rfl) rfl rfl) ?_ | refine RW.q 1 rfl rfl (by kernel_rfl) (Sub.refl _) (Qt.load (by kernel_rfl) rfl (map_at _ _ _ (by omega))) ?_ | refine RW.q 1 rfl rfl (by kernel_rfl) (Sub.refl _) (Qt.load (by kernel_rfl) rfl (flat_cell0 _ _ _ (by intros; rfl) _ (by omega) (by rfl))) ?_ | refine RW.q 1 rfl rfl (by kernel_rfl) (Sub.refl _) (Qt.load (by kernel_rfl) rfl (flat_cell _ _ _ (by intros; rfl) _ _ (by omega) (by rfl))) ?_ | refine RW.q 1 rfl rfl (by kernel_rfl) (Sub.refl _) (Qt.load (by kernel_rfl) rfl (bytes_at _ _ (by omega))) ?_
         refine RW.q 2 rfl rfl (by kernel_rfl) (Sub.refl _) (Qt.move rfl) ?_
         refine RW.q 3 rfl rfl (by kernel_rfl) (Sub.refl _) (Qt.fieldAddr0 (by kernel_rfl) rfl) ?_
         first | refine RW.q 4 rfl rfl (by kernel_rfl) (Sub.refl _) (Qt.load (by kernel_rfl) rfl rfl) ?_ | refine RW.q 4 rfl rfl (by kernel_rfl) (Sub.refl _) (Qt.load (by kernel_rfl) rfl (map_at _ _ _ (by omega))) ?_ | refine RW.q 4 rfl rfl (by kernel_rfl) (Sub.refl _) (Qt.load (by kernel_rfl) rfl (flat_cell0 _ _ _ (by intros; rfl) _ (by omega) (by rfl))) ?_ | refine RW.q 4 rfl rfl (by kernel_rfl) (Sub.refl _) (Qt.load (by kernel_rfl) rfl (flat_cell _ _ _ (by intros; rfl) _ _ (by omega) (by rfl))) ?_ | refine RW.q 4 rfl rfl (by kernel_rfl) (Sub.refl _) (Qt.load (by kernel_rfl) rfl (bytes_at _ _ (by omega))) ?_
         first | refine RW.q 5 rfl rfl (by kernel_rfl) (Sub.refl _) (Qt.lenSt (by kernel_rfl) rfl) ?_ | refine RW.q 5 rfl rfl (by kernel_rfl) (Sub.refl _) (Qt.lenS (by kernel_rfl) rfl) ?_
         refine RW.q 6 rfl rfl (by kernel_rfl) (Sub.refl _) (Qt.sliceS_ns (k + (8 + nn)) (by kernel_rfl) rfl rfl (by omega) (by omega)) ?_
         refine RW.q 7 rfl rfl (by kernel_rfl) (Sub.refl _) (Qt.neqS rfl rfl) ?_
         refine RW.done (by rfl) ?_
         simp only [List.drop_succ_cons, List.drop_zero, List.drop_nil]
         refine LW.done ?_
         refine T.condP rfl (fun hne => ?_) (fun hne => ?_)
         ·
          have ht : takeRec al k s = none := by rcases hcase with h | h; exact absurd h.1 hne; exact h.2
          have hfin := hsc.stop ht
          have hkl : st.length ≤ n * 256 := by omega
          refine T.exit ?_
          refine T.seq ?_
          refine T.region ?_
          refine LW.q rfl (Qt.fieldAddr0 (by kernel_rfl) rfl) ?_
          first | refine LW.q rfl (Qt.load (by kernel_rfl) rfl rfl) ?_ | refine LW.q rfl (Qt.load (by kernel_rfl) rfl (map_at _ _ _ (by omega))) ?_ | refine LW.q rfl (Qt.load (by kernel_rfl) rfl (flat_cell0 _ _ _ (by intros; rfl) _ (by omega) (by rfl))) ?_ | refine LW.q rfl (Qt.load (by kernel_rfl) rfl (flat_cell _ _ _ (by intros; rfl) _ _ (by omega) (by rfl))) ?_ | refine LW.q rfl (Qt.load (by kernel_rfl) rfl (bytes_at _ _ (by omega))) ?_
          first | refine LW.q rfl (Qt.lenSt (by kernel_rfl) rfl) ?_ | refine LW.q rfl (Qt.lenS (by kernel_rfl) rfl) ?_
          refine LW.q rfl (Qt.fieldAddr (off := 2) (by kernel_rfl) rfl) ?_
          refine LW.e0 rfl (Ef.store1 (by kernel_rfl) rfl rfl rfl (by first | (simp; done) | (simp; omega)) ?_)
          try simp only [List.set_cons_zero, List.set_cons_succ]
          refine LW.done ?_
          refine T.seq ?_
          refine T.seq ?_
          refine T.region ?_
          refine LW.q rfl (Qt.assign rfl) ?_
          refine LW.done ?_
          refine T.block ?_
          refine T.loop (fun mz fz lz => ∃ (f0 : Fr) (i : Nat) (D' : DD) (p q : Option Addr) (a c m' : Nat), (i ≤ n ∧ D'.Ok ∧ D'.secs.length = N ∧ D'.pend.length = m' ∧ m' ≤ m + i ∧ docWipe ⟨first, n, st, s, st.length⟩ al D' i (n - i) = docWipe ⟨first, n, st, s, st.length⟩ al D 0 n) ∧ mz = n - i ∧ fz = (upd (upd (upd (upd (upd (upd (upd (upd (upd f0 1 (.int .i64 first)) 2 (.int .i64 n)) 3 (.pointer (some ⟨g3, 0, none⟩))) 6 (.pointer (some ⟨g6, 0, none⟩))) 7 (.pointer (some ⟨g7, 0, none⟩))) 10 (.string (strOf al))) 14 (.pointer (some ⟨g14, 0, none⟩))) 15 (.slice q2 nq cq)) 20 (.int .i64 i)) ∧ lz = drecR q2 nq cq R :: rS (.slice p N a) N D'.secs :: rW (.slice q m' c) m' D'.pend :: blk g3 [.slice p N a, .slice q m' c] 30 :: blk g6 [.slice none 0 0, .slice none 0 0] 30 :: blk g7 [.string ByteArray.empty, .int .u32 0, .int .i64 0, .int .i64 0, .int .i64 0] 35 :: blk g14 [.string (strOf st), .int .u32 s.toNat, .int .i64 st.length, .int .i64 first, .int .i64 n] 35 :: F) ?_ ?_
          · refine ⟨_, _, ⟨_, 0, D, p, q, a, c, m, ⟨Nat.zero_le _, hD, hN, hm, by omega, by rw [Nat.sub_zero]⟩, rfl, (updS rfl (updS rfl (updS rfl (updS rfl (updS rfl (updS rfl (updS rfl (updS rfl (updS rfl rfl))))))))), rfl⟩, Sub.any⟩
          ·
           rintro mz fz lz ⟨f0, i, D', p, q, a, c, m', ⟨hi, ho, hsl, hpl, hpm, hwi⟩, hmz, rfl, rfl⟩
           subst mz
           try simp only [List.cons_append, List.nil_append]
           refine T.seq ?_
           refine T.seq ?_
           refine T.region ?_
           refine LW.q rfl (Qt.move rfl) ?_
           refine LW.q rfl (Qt.move rfl) ?_
           refine LW.q rfl (Qt.lss rfl rfl) ?_
           refine LW.done ?_
           refine T.condP rfl (fun hlt3 => ?_) (fun hlt3 => ?_)
           ·
            have hstep : docWipe ⟨first, n, st, s, st.length⟩ al D' i (n - i) = docWipe ⟨first, n, st, s, st.length⟩ al (if (al.take ((i + 1) * 256)).drop (i * 256) = secW st i then D' else D'.write (first + i) (secW st i)) (i + 1) (n - (i + 1)) := by rw [show n - i = (n - (i + 1)) + 1 by omega, docWipe]
            refine T.skip ?_
            refine T.seq ?_
            refine T.block ?_
            refine T.seq ?_
            refine T.drawBl 11 none (by kernel_rfl) (Nat.le_of_ble_eq_true rfl) (by kernel_rfl) ?_
            refine RW.q 0 rfl rfl (by kernel_rfl) Sub.any (Qt.move rfl) ?_
            refine RW.q 1 rfl rfl (by kernel_rfl) Sub.any (Qt.move rfl) ?_
            refine RW.q 2 rfl rfl (by kernel_rfl) Sub.any (Qt.mul rfl rfl (wr64 (by omega) (by omega))) ?_
            refine RW.q 3 rfl rfl (by kernel_rfl) Sub.any (Qt.move rfl) ?_
            refine RW.q 4 rfl rfl (by kernel_rfl) Sub.any (Qt.add rfl rfl (wr64 (by omega) (by omega))) ?_
            refine RW.q 5 rfl rfl (by kernel_rfl) Sub.any (Qt.mul rfl rfl (wr64 (by omega) (by omega))) ?_
            refine RW.q 6 rfl rfl (by kernel_rfl) Sub.any (Qt.sliceS (i * 256) ((i + 1) * 256) ((al.take ((i + 1) * 256)).drop (i * 256)) (by kernel_rfl) rfl rfl rfl (by omega) (by omega) (by omega) (by omega) rfl) ?_
            first | refine RW.q 7 rfl rfl (by kernel_rfl) Sub.any (Qt.loadAgg [_, _, _, _, _] (by kernel_rfl) rfl ⟨rfl, rfl, rfl, rfl, rfl, trivial⟩) ?_ | refine RW.q 7 rfl rfl (by kernel_rfl) Sub.any (Qt.loadAgg [_, _, _, _, _] (by kernel_rfl) rfl (by exact rdl_flat _ _ _ (by intros; rfl) _ (by omega))) ?_
            refine RW.q 8 rfl rfl (by kernel_rfl) Sub.any (Qt.move rfl) ?_
            refine RW.one 9 (by kernel_rfl) ?_
            refine RO.eS rfl rfl (Ef.call (Rl.sector B ⟨first, n, st, s, st.length⟩ i i rfl (by omega) (by show st.length < _; omega)) Tryz.func26 rfl rfl rfl ?_)
            rintro _ _ ⟨rfl, rfl⟩
            try simp only [List.cons_append, List.nil_append]
            refine ⟨Sub.any, ?_⟩
            refine RW.q 10 rfl rfl (by kernel_rfl) Sub.any (Qt.neqS rfl rfl) ?_
            refine RW.done (by rfl) ?_
            simp only [List.drop_succ_cons, List.drop_zero, List.drop_nil]
            refine LW.done ?_
            refine T.condP rfl (fun hne => ?_) (fun hne => ?_)
            ·
             rw [if_neg hne] at hstep
             refine T.drawBl 12 (some g3) (by kernel_rfl) (Nat.le_of_ble_eq_true rfl) (by kernel_rfl) ?_
             refine RW.q 1 rfl rfl (by kernel_rfl) Sub.any (Qt.move rfl) ?_
             refine RW.q 2 rfl rfl (by kernel_rfl) Sub.any (Qt.move rfl) ?_
             refine RW.q 3 rfl rfl (by kernel_rfl) Sub.any (Qt.add rfl rfl (wr64 (by omega) (by omega))) ?_
             first | refine RW.q 4 rfl rfl (by kernel_rfl) Sub.any (Qt.loadAgg [_, _, _, _, _] (by kernel_rfl) rfl ⟨rfl, rfl, rfl, rfl, rfl, trivial⟩) ?_ | refine RW.q 4 rfl rfl (by kernel_rfl) Sub.any (Qt.loadAgg [_, _, _, _, _] (by kernel_rfl) rfl (by exact rdl_flat _ _ _ (by intros; rfl) _ (by omega))) ?_
             refine RW.q 5 rfl rfl (by kernel_rfl) Sub.any (Qt.move rfl) ?_
             refine RW.all [0, 6] (by kernel_rfl) (List.forall_mem_cons.2 ⟨?_, List.forall_mem_cons.2 ⟨?_, List.forall_mem_nil _⟩⟩)
             ·
              first | refine RO.eS rfl rfl (Ef.qt (Qt.loadAgg [_, _] (by kernel_rfl) rfl ⟨rfl, rfl, trivial⟩) ?_) | refine RO.eS rfl rfl (Ef.qt (Qt.loadAgg [_, _] (by kernel_rfl) rfl (by exact rdl_flat _ _ _ (by intros; rfl) _ (by omega))) ?_)
              refine ⟨Sub.any, ?_⟩
              refine RW.one 6 (by kernel_rfl) ?_
              refine RO.eS rfl rfl (Ef.call (Rl.sector B ⟨first, n, st, s, st.length⟩ i i rfl (by omega) (by show st.length < _; omega)) Tryz.func26 rfl rfl rfl ?_)
              rintro _ _ ⟨rfl, rfl⟩
              try simp only [List.cons_append, List.nil_append]
              refine ⟨Sub.any, ?_⟩
              refine RW.one 7 (by kernel_rfl) ?_
              refine RO.eS rfl rfl (Ef.call (Rf.put B p q a c N m' (first + i) (first + i) (by omega) (secW st i) D'.secs D'.pend (by omega) (by omega) (by omega) (length_secW _ _)) Tryz.func27 rfl rfl rfl ?_)
              rintro _ _ ⟨p1, a1, q1, c1, rfl, rfl⟩
              try simp only [List.cons_append, List.nil_append]
              refine ⟨Sub.any, ?_⟩
              refine RW.q 8 rfl rfl (by kernel_rfl) Sub.any (Qt.move rfl) ?_
              refine RW.q 9 rfl rfl (by kernel_rfl) Sub.any (Qt.extract rfl rfl) ?_
              refine RW.q 10 rfl rfl (by kernel_rfl) Sub.any (Qt.extract rfl rfl) ?_
              refine RW.one 11 (by kernel_rfl) ?_
              refine RO.eS0 rfl rfl (Ef.store [_, _] (by kernel_rfl) rfl rfl rfl rfl (by simp) ?_)
              try simp only [splice, List.length_cons, List.length_nil, List.drop_succ_cons, List.cons_append, List.take_succ_cons, List.take_zero, List.drop_zero, List.nil_append, List.append_nil]
              refine ⟨Sub.any, ?_⟩
              refine RW.done (by rfl) ?_
              simp only [List.drop_succ_cons, List.drop_zero, List.drop_nil]
              refine LW.done ?_
              refine T.region ?_
              refine LW.q rfl (Qt.move rfl) ?_
              refine LW.q rfl (Qt.add rfl rfl (wr64 (by omega) (by omega))) ?_
              refine LW.q rfl (Qt.assign rfl) ?_
              refine LW.done ?_
              refine ⟨_, ?_, _, ⟨_, i + 1, ⟨D'.secs, D'.pend ++ [(first + i, secW st i)]⟩, p1, q1, a1, c1, m' + 1, ⟨by omega, ho.wr2 _ _ (by omega) (length_secW _ _), hsl, by simp [hpl], by omega, by rw [hstep] at hwi; exact hwi⟩, rfl, (updS rfl (updS rfl (updS rfl (updS rfl (updS rfl (updS rfl (updS rfl (updS rfl (updS rfl rfl))))))))), rfl⟩, Sub.any⟩
              first | omega | (simp; omega)
             ·
              refine RO.eS rfl rfl (Ef.call (Rl.sector B ⟨first, n, st, s, st.length⟩ i i rfl (by omega) (by show st.length < _; omega)) Tryz.func26 rfl rfl rfl ?_)
              rintro _ _ ⟨rfl, rfl⟩
              try simp only [List.cons_append, List.nil_append]
              refine ⟨Sub.any, ?_⟩
              refine RW.one 0 (by kernel_rfl) ?_
              first | refine RO.eS rfl rfl (Ef.qt (Qt.loadAgg [_, _] (by kernel_rfl) rfl ⟨rfl, rfl, trivial⟩) ?_) | refine RO.eS rfl rfl (Ef.qt (Qt.loadAgg [_, _] (by kernel_rfl) rfl (by exact rdl_flat _ _ _ (by intros; rfl) _ (by omega))) ?_)
              refine ⟨Sub.any, ?_⟩
              refine RW.one 7 (by kernel_rfl) ?_
              refine RO.eS rfl rfl (Ef.call (Rf.put B p q a c N m' (first + i) (first + i) (by omega) (secW st i) D'.secs D'.pend (by omega) (by omega) (by omega) (length_secW _ _)) Tryz.func27 rfl rfl rfl ?_)
              rintro _ _ ⟨p1, a1, q1, c1, rfl, rfl⟩
              try simp only [List.cons_append, List.nil_append]
              refine ⟨Sub.any, ?_⟩
              refine RW.q 8 rfl rfl (by kernel_rfl) Sub.any (Qt.move rfl) ?_
              refine RW.q 9 rfl rfl (by kernel_rfl) Sub.any (Qt.extract rfl rfl) ?_
              refine RW.q 10 rfl rfl (by kernel_rfl) Sub.any (Qt.extract rfl rfl) ?_
              refine RW.one 11 (by kernel_rfl) ?_
              refine RO.eS0 rfl rfl (Ef.store [_, _] (by kernel_rfl) rfl rfl rfl rfl (by simp) ?_)
              try simp only [splice, List.length_cons, List.length_nil, List.drop_succ_cons, List.cons_append, List.take_succ_cons, List.take_zero, List.drop_zero, List.nil_append, List.append_nil]
              refine ⟨Sub.any, ?_⟩
              refine RW.done (by rfl) ?_
              simp only [List.drop_succ_cons, List.drop_zero, List.drop_nil]
              refine LW.done ?_
              refine T.region ?_
              refine LW.q rfl (Qt.move rfl) ?_
              refine LW.q rfl (Qt.add rfl rfl (wr64 (by omega) (by omega))) ?_
              refine LW.q rfl (Qt.assign rfl) ?_
              refine LW.done ?_
              refine ⟨_, ?_, _, ⟨_, i + 1, ⟨D'.secs, D'.pend ++ [(first + i, secW st i)]⟩, p1, q1, a1, c1, m' + 1, ⟨by omega, ho.wr2 _ _ (by omega) (length_secW _ _), hsl, by simp [hpl], by omega, by rw [hstep] at hwi; exact hwi⟩, rfl, (updS rfl (updS rfl (updS rfl (updS rfl (updS rfl (updS rfl (updS rfl (updS rfl (updS rfl rfl))))))))), rfl⟩, Sub.any⟩
              first | omega | (simp; omega)
            ·
             rw [if_pos (Decidable.not_not.1 hne)] at hstep
             refine T.skip ?_
             refine T.region ?_
             refine LW.q rfl (Qt.move rfl) ?_
             refine LW.q rfl (Qt.add rfl rfl (wr64 (by omega) (by omega))) ?_
             refine LW.q rfl (Qt.assign rfl) ?_
             refine LW.done ?_
             refine ⟨_, ?_, _, ⟨_, i + 1, D', p, q, a, c, m', ⟨by omega, ho, hsl, hpl, by omega, by rw [← hstep]; exact hwi⟩, rfl, (updS rfl (updS rfl (updS rfl (updS rfl (updS rfl (updS rfl (updS rfl (updS rfl (updS rfl rfl))))))))), rfl⟩, Sub.any⟩
             first | omega | (simp; omega)
           ·
            obtain rfl : i = n := by omega
            rw [Nat.sub_self] at hwi
            refine T.exit ?_
            refine T.seq ?_
            refine T.draw 6 ([blk g3 [.slice p N a, .slice q m' c] 30, blk g14 [.string (strOf st), .int .u32 s.toNat, .int .i64 st.length, .int .i64 first, .int .i64 i] 35]) (by kernel_rfl) (Nat.le_of_ble_eq_true rfl) (by kernel_rfl) ?_
            first | refine RW.q 0 rfl rfl (by kernel_rfl) Sub.any (Qt.loadAgg [_, _] (by kernel_rfl) rfl ⟨rfl, rfl, trivial⟩) ?_ | refine RW.q 0 rfl rfl (by kernel_rfl) Sub.any (Qt.loadAgg [_, _] (by kernel_rfl) rfl (by exact rdl_flat _ _ _ (by intros; rfl) _ (by omega))) ?_
            first | refine RW.q 2 rfl rfl (by kernel_rfl) Sub.any (Qt.loadAgg [_, _, _, _, _] (by kernel_rfl) rfl ⟨rfl, rfl, rfl, rfl, rfl, trivial⟩) ?_ | refine RW.q 2 rfl rfl (by kernel_rfl) Sub.any (Qt.loadAgg [_, _, _, _, _] (by kernel_rfl) rfl (by exact rdl_flat _ _ _ (by intros; rfl) _ (by omega))) ?_
            refine RW.q 3 rfl rfl (by kernel_rfl) Sub.any (Qt.move rfl) ?_
            refine RW.one 1 (by kernel_rfl) ?_
            refine RO.eS rfl rfl (Ef.call (Rf.crash B p q a c N m' true (.slice none 0 0) [] 0 0 D'.secs D'.pend ho (by omega) ⟨none, 0, rfl, .inl rfl⟩) Tryz.func28 rfl rfl rfl ?_)
            rintro _ _ ⟨p1, a1, rfl, rfl⟩
            try simp only [List.cons_append, List.nil_append]
            refine ⟨Sub.any, ?_⟩
            refine RW.one 4 (by kernel_rfl) ?_
            refine RO.eS0 rfl rfl (Ef.store [_, _] (by kernel_rfl) rfl rfl rfl rfl (by simp) ?_)
            try simp only [splice, List.length_cons, List.length_nil, List.drop_succ_cons, List.cons_append, List.take_succ_cons, List.take_zero, List.drop_zero, List.nil_append, List.append_nil]
            refine ⟨Sub.any, ?_⟩
            refine RW.one 5 (by kernel_rfl) ?_
            refine RO.eS0 rfl rfl (Ef.store [_, _, _, _, _] (by kernel_rfl) rfl rfl rfl rfl (by simp) ?_)
            try simp only [splice, List.length_cons, List.length_nil, List.drop_succ_cons, List.cons_append, List.take_succ_cons, List.take_zero, List.drop_zero, List.nil_append, List.append_nil]
            refine ⟨Sub.any, ?_⟩
            refine RW.done (by rfl) ?_
            simp only [List.drop_succ_cons, List.drop_zero, List.drop_nil]
            refine LW.q rfl (Qt.assign rfl) ?_
            refine LW.q rfl (Qt.assign rfl) ?_
            refine LW.done ?_
            refine T.ret ?_
            exact ⟨.inl rfl, _, _, res [_, _, _, _] rfl ⟨rvA [_, _] (by kernel_rfl) rfl ⟨rfl, rfl, trivial⟩, rvA [_, _, _, _, _] (by kernel_rfl) rfl ⟨rfl, rfl, rfl, rfl, rfl, trivial⟩, rvT rfl, rvT rfl, trivial⟩, ROpenW.mk hal hall hst hstl hfin hnq hpl hwi (lays_all _ [] 0 0 _) rfl rfl, Sub.any⟩
         ·
          have ht : takeRec al k s = some (nn, s2) := by rcases hcase with h | h; exact h.2; exact absurd h.1 hne
          have he : st2 = al.take (k + (8 + nn)) := Decidable.not_not.1 hne
          refine T.skip ?_
          refine T.seq ?_
          refine T.region ?_
          first | refine LW.q rfl (Qt.loadAgg [_, _, _, _, _] (by kernel_rfl) rfl ⟨rfl, rfl, rfl, rfl, rfl, trivial⟩) ?_ | refine LW.q rfl (Qt.loadAgg [_, _, _, _, _] (by kernel_rfl) rfl (by exact rdl_flat _ _ _ (by intros; rfl) _ (by omega))) ?_
          refine LW.e0 rfl (Ef.store [_, _, _, _, _] (by kernel_rfl) rfl rfl rfl rfl (by simp) ?_)
          try simp only [splice, List.length_cons, List.length_nil, List.drop_succ_cons, List.cons_append, List.take_succ_cons, List.take_zero, List.drop_zero, List.nil_append, List.append_nil]
          refine LW.done ?_
          refine T.drawBl 12 none (by kernel_rfl) (Nat.le_of_ble_eq_true rfl) (by kernel_rfl) ?_
          refine RW.q 0 rfl rfl (by kernel_rfl) Sub.any (Qt.move rfl) ?_
          refine RW.q 1 rfl rfl (by kernel_rfl) Sub.any (Qt.fieldAddr0 (by kernel_rfl) rfl) ?_
          first | refine RW.q 2 rfl rfl (by kernel_rfl) Sub.any (Qt.load (by kernel_rfl) rfl rfl) ?_ | refine RW.q 2 rfl rfl (by kernel_rfl) Sub.any (Qt.load (by kernel_rfl) rfl (map_at _ _ _ (by omega))) ?_ | refine RW.q 2 rfl rfl (by kernel_rfl) Sub.any (Qt.load (by kernel_rfl) rfl (flat_cell0 _ _ _ (by intros; rfl) _ (by omega) (by rfl))) ?_ | refine RW.q 2 rfl rfl (by kernel_rfl) Sub.any (Qt.load (by kernel_rfl) rfl (flat_cell _ _ _ (by intros; rfl) _ _ (by omega) (by rfl))) ?_ | refine RW.q 2 rfl rfl (by kernel_rfl) Sub.any (Qt.load (by kernel_rfl) rfl (bytes_at _ _ (by omega))) ?_
          first | refine RW.q 3 rfl rfl (by kernel_rfl) Sub.any (Qt.lenSt (by kernel_rfl) rfl) ?_ | refine RW.q 3 rfl rfl (by kernel_rfl) Sub.any (Qt.lenS (by kernel_rfl) rfl) ?_
          refine RW.q 4 rfl rfl (by kernel_rfl) Sub.any (Qt.move rfl) ?_
          refine RW.q 5 rfl rfl (by kernel_rfl) Sub.any (Qt.move rfl) ?_
          refine RW.q 6 rfl rfl (by kernel_rfl) Sub.any (Qt.convI (by kernel_rfl) (by kernel_rfl) rfl (wr64 (by omega) (by omega))) ?_
          refine RW.q 7 rfl rfl (by kernel_rfl) Sub.any (Qt.add rfl rfl (wr64 (by omega) (by omega))) ?_
          refine RW.q 8 rfl rfl (by kernel_rfl) Sub.any (Qt.sliceS 8 (8 + nn) d (by kernel_rfl) rfl rfl rfl rfl (by omega) (by omega) (by omega) hd) ?_
          refine RW.q 9 rfl rfl (by kernel_rfl) Sub.any (Qt.build [(0, 1), (1, 1)] [.int .i64 0, .string .empty] [_, _] [(0, _), (1, _)] (by kernel_rfl) (by unfold zeroB; kernel_rfl) rfl rfl) ?_
          refine RW.one 10 (by kernel_rfl) ?_
          refine RO.eS rfl rfl (Ef.one [_, _] (e := 85) (sz := 2) (by kernel_rfl) ⟨.agg #[.int .i64 0, .string .empty], by kernel_rfl, rfl⟩ rfl rfl rfl (by omega) (by omega) ?_)
          intro g118
          refine ⟨Sub.any, ?_⟩
          refine RW.one 11 (by kernel_rfl) ?_
          refine RO.eS rfl rfl (Ef.append Rl.elemR rfl rfl (SrcOf.blk (by kernel_rfl) rfl (by simp [Value.oneCell'])) (by unfold maxLen; omega) (by omega) ?_)
          rintro p6 c6 hp6
          try simp only [List.cons_append, List.nil_append]
          rw [show [Value.int .i64 (st2.length : Int), Value.string (strOf d)] = drecC (st2.length, d) from rfl, flat_snoc]
          refine ⟨Sub.any, ?_⟩
          refine RW.done (by rfl) ?_
          simp only [List.drop_succ_cons, List.drop_zero, List.drop_nil]
          refine LW.q rfl (Qt.assign rfl) ?_
          refine LW.done ?_
          have hsc2 := hsc.next hk ht
          rw [hd, ← hl2] at hsc2
          refine ⟨_, ?_, _, ⟨_, st2.length, st2, s2, R ++ [(st2.length, d)], p6, c6, nq + 1, ⟨by omega, by rw [hl2]; exact he, rfl, by simp [hnq], by omega, hsc2⟩, rfl, (updS rfl (updS rfl (updS rfl (updS rfl (updS rfl (updS rfl (updS rfl (updS rfl rfl)))))))), rfl⟩, Sub.any⟩
          first | omega | (simp; omega)
end Go.Proofs.YtegohgaccmkigaaGreatDoor
