/- The package wal: wipe. Conditions: sizes; that what is handed in can be read. -/
import Derived.Test.YtegohgaccmkigaaDoorWlC
set_option linter.unusedSimpArgs false
set_option linter.unusedVariables false
namespace Go.Proofs.YtegohgaccmkigaaDoor
open Go.RowKit

/-- A disk behind the wiping of k sectors from n on. -/
def wipeD (W : Wl) (al : List UInt8) : DD → Nat → Nat → DD
  | D, _, 0 => D
  | D, n, k + 1 => wipeD W al (if ((al.take ((n + 1) * 256)).drop (max (n * 256) W.dur)).all (· == 0) then D else D.write (W.first + n) (secW W.st n)) (n + 1) k

set_option maxHeartbeats 2000000 in
set_option maxRecDepth 100000 in
theorem Wl.wipe (B : Base) (S : List Assn) (g b : Nat) (W : Wl) (p : Option Addr) (c : Nat) (hp : 0 < W.st.length → ∃ g, p = some ⟨g, 0, none⟩) (hc : W.st.length ≤ c) (D : DD) (a : Option Addr) (m ca : Nat) (al : List UInt8) (hv : RdV B S (.slice a m ca) (bytesV al)) (hm : al.length = m) (hmc : m ≤ ca) (hmw : m = W.count * 256)
    (hD : W.first + W.count ≤ D.secs.length) (hs : D.secs.length ≤ 4096) (hst : W.st.length ≤ W.count * 256) (hdur : W.dur ≤ W.st.length) (hroom : D.pend.length + 4096 < 2 ^ 32) :
    Fn Tryd.prog B 54 #[.pointer (some ⟨g, 0, none⟩), .slice a m ca] (wlB g b W p c :: rB (.slice p W.st.length c) W.st.length W.st :: dskA b D :: S) (fun u l => u = .tuple #[] ∧ l = wlB g b W p c :: rB (.slice p W.st.length c) W.st.length W.st :: dskA b (wipeD W al D (W.dur / 256) (W.count - W.dur / 256)).sync :: S) := by
  refine Fn.enter2 49 Tryd.func54 rfl rfl (Nat.le_of_ble_eq_true rfl) (fun F => ?_)
  try simp only [List.cons_append, List.nil_append]
  refine T.seq ?_
  refine T.seq ?_
  refine T.region ?_
  refine LW.q rfl (Qt.move rfl) ?_
  refine LW.q rfl (Qt.nilCheck rfl) ?_
  refine LW.q rfl (Qt.fieldAddr (off := 5) (by kernel_rfl) rfl) ?_
  first | refine LW.q rfl (Qt.load (by kernel_rfl) rfl rfl) ?_ | refine LW.q rfl (Qt.load (by kernel_rfl) rfl (map_at _ _ _ (by omega))) ?_ | refine LW.q rfl (Qt.load (by kernel_rfl) rfl (flat_cell0 _ _ _ (by intros; rfl) _ (by omega) (by rfl))) ?_ | refine LW.q rfl (Qt.load (by kernel_rfl) rfl (flat_cell _ _ _ (by intros; rfl) _ _ (by omega) (by rfl))) ?_ | refine LW.q rfl (Qt.load (by kernel_rfl) rfl (bytes_at _ _ (by omega))) ?_
  refine LW.q rfl (Qt.quo rfl rfl (by omega) (quo256i W.dur (by omega))) ?_
  refine LW.q rfl (Qt.assign rfl) ?_
  refine LW.done ?_
  refine T.block ?_
  refine T.loop (fun mz fz lz => ∃ (f0 : Fr) (n : Nat) (D' : DD), (W.dur / 256 ≤ n ∧ n ≤ W.count ∧ D'.secs.length = D.secs.length ∧ D'.pend.length ≤ D.pend.length + n ∧ wipeD W al D' n (W.count - n) = wipeD W al D (W.dur / 256) (W.count - W.dur / 256)) ∧ mz = W.count - n ∧ fz = (upd (upd (upd f0 0 (.pointer (some ⟨g, 0, none⟩))) 1 (.slice a m ca)) 4 (.int .i64 n)) ∧ lz = wlB g b W p c :: rB (.slice p W.st.length c) W.st.length W.st :: dskA b D' :: (S ++ F)) ?_ ?_
  · refine ⟨_, _, ⟨_, W.dur / 256, D, ⟨Nat.le_refl _, by omega, rfl, by omega, rfl⟩, rfl, (updS rfl (updS rfl (updS rfl rfl))), rfl⟩, Sub.any⟩
  · skip
    rintro mz fz lz ⟨f0, n, D', ⟨hn1, hn2, hs', hpend, hlay⟩, hmz, rfl, rfl⟩
    subst mz
    try simp only [List.cons_append, List.nil_append]
    refine T.seq ?_
    refine T.seq ?_
    refine T.region ?_
    refine LW.q rfl (Qt.move rfl) ?_
    refine LW.q rfl (Qt.move rfl) ?_
    refine LW.q rfl (Qt.nilCheck rfl) ?_
    refine LW.q rfl (Qt.fieldAddr0 (by kernel_rfl) rfl) ?_
    refine LW.q rfl (Qt.fieldAddr (off := 2) (by kernel_rfl) rfl) ?_
    first | refine LW.q rfl (Qt.load (by kernel_rfl) rfl rfl) ?_ | refine LW.q rfl (Qt.load (by kernel_rfl) rfl (map_at _ _ _ (by omega))) ?_ | refine LW.q rfl (Qt.load (by kernel_rfl) rfl (flat_cell0 _ _ _ (by intros; rfl) _ (by omega) (by rfl))) ?_ | refine LW.q rfl (Qt.load (by kernel_rfl) rfl (flat_cell _ _ _ (by intros; rfl) _ _ (by omega) (by rfl))) ?_ | refine LW.q rfl (Qt.load (by kernel_rfl) rfl (bytes_at _ _ (by omega))) ?_
    refine LW.q rfl (Qt.lss rfl rfl) ?_
    refine LW.done ?_
    refine T.condP rfl (fun hlt => ?_) (fun hlt => ?_)
    · skip
      obtain ⟨lo, hlo⟩ : ∃ lo, max (n * 256) W.dur = lo := ⟨_, rfl⟩
      refine T.skip ?_
      refine T.seq ?_
      refine T.block ?_
      refine T.seq ?_
      refine T.region ?_
      refine LW.q rfl (Qt.move rfl) ?_
      refine LW.q rfl (Qt.mul rfl rfl (wr64 (by omega) (by omega))) ?_
      refine LW.q rfl (Qt.move rfl) ?_
      refine LW.q rfl (Qt.add rfl rfl (wr64 (by omega) (by omega))) ?_
      refine LW.q rfl (Qt.mul rfl rfl (wr64 (by omega) (by omega))) ?_
      refine LW.q rfl (Qt.assign rfl) ?_
      refine LW.q rfl (Qt.assign rfl) ?_
      refine LW.done ?_
      refine T.seq ?_
      refine T.region ?_
      refine LW.q rfl (Qt.move rfl) ?_
      refine LW.q rfl (Qt.move rfl) ?_
      refine LW.q rfl (Qt.move rfl) ?_
      refine LW.q rfl (Qt.nilCheck rfl) ?_
      refine LW.q rfl (Qt.fieldAddr (off := 5) (by kernel_rfl) rfl) ?_
      first | refine LW.q rfl (Qt.load (by kernel_rfl) rfl rfl) ?_ | refine LW.q rfl (Qt.load (by kernel_rfl) rfl (map_at _ _ _ (by omega))) ?_ | refine LW.q rfl (Qt.load (by kernel_rfl) rfl (flat_cell0 _ _ _ (by intros; rfl) _ (by omega) (by rfl))) ?_ | refine LW.q rfl (Qt.load (by kernel_rfl) rfl (flat_cell _ _ _ (by intros; rfl) _ _ (by omega) (by rfl))) ?_ | refine LW.q rfl (Qt.load (by kernel_rfl) rfl (bytes_at _ _ (by omega))) ?_
      refine LW.q rfl (Qt.max rfl rfl) ?_
      refine LW.q rfl (Qt.move rfl) ?_
      refine LW.q rfl (Qt.slice_ssn lo ((n + 1) * 256) (e := 5) (sz := 1) (by kernel_rfl) rfl rfl rfl (by omega) (by omega) (by omega) (by omega)) ?_
      refine LW.q rfl (Qt.assign rfl) ?_
      refine LW.done ?_
      refine T.seq ?_
      refine T.region ?_
      refine LW.q rfl (Qt.move rfl) ?_
      refine LW.e rfl (Ef.call (Tr.trim B S (offA a ca lo 1) ((n + 1) * 256 - lo) (ca - lo) ((al.take ((n + 1) * 256)).drop lo) (hv.part lo ((n + 1) * 256) (by omega) hm (by omega) (by omega) rfl) (by simp; omega) (by omega) (by omega)) Tryd.func53 rfl rfl rfl ?_)
      rintro _ S ⟨p3, m3, c3, rfl, hz, rfl⟩
      try simp only [List.cons_append, List.nil_append]
      refine LW.q rfl (Qt.len (e := 5) (sz := 1) (by kernel_rfl) rfl) ?_
      refine LW.q rfl (Qt.gtr rfl rfl) ?_
      refine LW.done ?_
      have hstep : wipeD W al D' n (W.count - n) = wipeD W al (if ((al.take ((n + 1) * 256)).drop lo).all (· == 0) then D' else D'.write (W.first + n) (secW W.st n)) (n + 1) (W.count - (n + 1)) := by rw [show W.count - n = (W.count - (n + 1)) + 1 by omega, wipeD, hlo]
      refine T.condP rfl (fun hpos => ?_) (fun hpos => ?_)
      · skip
        rw [if_neg (by intro h; have := hz.2 (by simpa using h); omega)] at hstep
        refine T.region ?_
        refine LW.q rfl (Qt.move rfl) ?_
        refine LW.q rfl (Qt.move rfl) ?_
        refine LW.e rfl (Ef.call (Wl.lay B g b W p c hp hc D' n (by omega) (by omega) (by omega) (by omega) (by omega)) Tryd.func65 rfl rfl rfl ?_)
        rintro _ _ ⟨rfl, rfl⟩
        try simp only [List.cons_append, List.nil_append]
        refine LW.done ?_
        refine T.region ?_
        refine LW.q rfl (Qt.move rfl) ?_
        refine LW.q rfl (Qt.add rfl rfl (wr64 (by omega) (by omega))) ?_
        refine LW.q rfl (Qt.assign rfl) ?_
        refine LW.done ?_
        refine ⟨_, ?_, _, ⟨_, n + 1, D'.write (W.first + n) (secW W.st n), ⟨by omega, by omega, hs', by simp [DD.write]; omega, by rw [← hstep]; exact hlay⟩, rfl, (updS rfl (updS rfl (updS rfl rfl))), rfl⟩, Sub.any⟩
        first | omega | (simp; omega)
      · skip
        rw [if_pos (by simpa using hz.1 (by omega))] at hstep
        refine T.skip ?_
        refine T.region ?_
        refine LW.q rfl (Qt.move rfl) ?_
        refine LW.q rfl (Qt.add rfl rfl (wr64 (by omega) (by omega))) ?_
        refine LW.q rfl (Qt.assign rfl) ?_
        refine LW.done ?_
        refine ⟨_, ?_, _, ⟨_, n + 1, D', ⟨by omega, by omega, hs', by omega, by rw [← hstep]; exact hlay⟩, rfl, (updS rfl (updS rfl (updS rfl rfl))), rfl⟩, Sub.any⟩
        first | omega | (simp; omega)
    · skip
      obtain rfl : n = W.count := by omega
      rw [Nat.sub_self] at hlay
      obtain rfl : D' = wipeD W al D (W.dur / 256) (W.count - W.dur / 256) := hlay
      refine T.exit ?_
      refine T.region ?_
      refine LW.q rfl (Qt.move rfl) ?_
      refine LW.q rfl (Qt.nilCheck rfl) ?_
      refine LW.q rfl (Qt.fieldAddr0 (by kernel_rfl) rfl) ?_
      refine LW.q rfl (Qt.fieldAddr0 (by kernel_rfl) rfl) ?_
      first | refine LW.q rfl (Qt.load (by kernel_rfl) rfl rfl) ?_ | refine LW.q rfl (Qt.load (by kernel_rfl) rfl (map_at _ _ _ (by omega))) ?_ | refine LW.q rfl (Qt.load (by kernel_rfl) rfl (flat_cell0 _ _ _ (by intros; rfl) _ (by omega) (by rfl))) ?_ | refine LW.q rfl (Qt.load (by kernel_rfl) rfl (flat_cell _ _ _ (by intros; rfl) _ _ (by omega) (by rfl))) ?_ | refine LW.q rfl (Qt.load (by kernel_rfl) rfl (bytes_at _ _ (by omega))) ?_
      refine LW.e rfl (Ef.call (Dk.syncF B b (wipeD W al D (W.dur / 256) (W.count - W.dur / 256)) (by omega)) Tryd.func43 rfl rfl rfl ?_)
      rintro _ _ ⟨rfl, rfl⟩
      try simp only [List.cons_append, List.nil_append]
      refine LW.done ?_
      exact ⟨.inr rfl, _, _, res [] rfl trivial, ⟨rfl, rfl⟩, Sub.any⟩
end Go.Proofs.YtegohgaccmkigaaDoor
