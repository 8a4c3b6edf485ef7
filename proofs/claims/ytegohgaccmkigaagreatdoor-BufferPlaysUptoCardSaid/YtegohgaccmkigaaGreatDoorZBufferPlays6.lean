/- The texts BgD BfE BgE BgF BgG BgH, one behind the other: what the law leans on. Conditions: as each theorem says. -/
import Derived.Test.YtegohgaccmkigaaGreatDoorZBufferPlays5
import Derived.Deep.QuietTactic
import Derived.BigQuiet
/- The package buffer: Pin, Unpin, Bytes, Put over a pool as a whole. Conditions: sizes; the frames are in order. -/
set_option linter.unusedSimpArgs false
set_option linter.unusedVariables false
namespace Go.Proofs.YtegohgaccmkigaaGreatDoor
open Go.RowKit

set_option maxHeartbeats 2000000 in
set_option maxRecDepth 100000 in
theorem Bf.pin_found (B : Base) (g b gf n first count hand : Nat) (pl : Option Addr) (nl cl : Nat) (Fs : List Fm) (page : Int) (h0 : 0 ≤ page) (hc : page < count) (i : Nat) (x : Fm) (hn : Fs.length = n) (hn2 : n ≤ 4096) (hx : Fd Fs page i x) (hpin : 0 ≤ x.pins) (hpin2 : x.pins < 2 ^ 62) :
    Fn Tryz.prog B 12 #[.pointer (some ⟨g, 0, none⟩), .int .i64 page] [poolB g b gf n first count hand pl nl cl, fmR gf n Fs] (fun u l => u = .int .i64 0 ∧ l = [poolB g b gf n first count hand pl nl cl, fmR gf n (Fs.set i { x with pins := x.pins + 1, used := true })]) := by
  have hi : i < Fs.length := (List.getElem?_eq_some_iff.1 hx.at_).1
  have hfl := fm_len Fs
  refine Fn.enter2 59 Tryz.func12 rfl rfl (Nat.le_of_ble_eq_true rfl) (fun F => ?_)
  try simp only [List.cons_append, List.nil_append]
  refine T.seq ?_
  refine T.region ?_
  refine LW.q rfl (Qt.assign rfl) ?_
  refine LW.done ?_
  refine T.seq ?_
  refine T.seq ?_
  refine T.region ?_
  refine LW.q rfl (Qt.move rfl) ?_
  refine LW.q rfl (Qt.lss rfl rfl) ?_
  refine LW.q rfl (Qt.move rfl) ?_
  first | refine LW.gF (t := 10) rfl rfl ?_ | refine LW.gF (t := 10) rfl (decide_eq_false (by omega)) ?_ | refine LW.gF (t := 10) rfl (by omega) ?_
  refine LW.q rfl (Qt.move rfl) ?_
  refine LW.q rfl (Qt.move rfl) ?_
  refine LW.q rfl (Qt.nilCheck rfl) ?_
  refine LW.q rfl (Qt.fieldAddr0 (by kernel_rfl) rfl) ?_
  refine LW.q rfl (Qt.fieldAddr (off := 2) (by kernel_rfl) rfl) ?_
  first | refine LW.q rfl (Qt.load (by kernel_rfl) rfl rfl) ?_ | refine LW.q rfl (Qt.load (by kernel_rfl) rfl (map_at _ _ _ (by omega))) ?_ | refine LW.q rfl (Qt.load (by kernel_rfl) rfl (flat_cell0 _ _ _ (by intros; rfl) _ (by omega) (by rfl))) ?_ | refine LW.q rfl (Qt.load (by kernel_rfl) rfl (flat_cell _ _ _ (by intros; rfl) _ _ (by omega) (by rfl))) ?_ | refine LW.q rfl (Qt.load (by kernel_rfl) rfl (bytes_at _ _ (by omega))) ?_
  refine LW.q rfl (Qt.geq rfl rfl) ?_
  refine LW.q rfl (Qt.pick rfl rfl) ?_
  refine LW.done ?_
  first | refine T.condF rfl ?_ | refine T.condPF rfl (by omega) ?_ | refine T.condBF rfl (by omega) ?_
  refine T.skip ?_
  refine T.seq ?_
  refine T.region ?_
  refine LW.q rfl (Qt.move rfl) ?_
  refine LW.q rfl (Qt.move rfl) ?_
  refine LW.e rfl (Ef.call (Bf.find_some B g b gf n first count hand pl nl cl Fs page i x hn hn2 hx.at_ hx.pg hx.pos hx.first) Tryz.func39 rfl rfl rfl ?_)
  rintro _ _ ⟨rfl, rfl⟩
  try simp only [List.cons_append, List.nil_append]
  refine LW.q rfl (Qt.assign rfl) ?_
  refine LW.done ?_
  refine T.seq ?_
  refine T.seq ?_
  refine T.region ?_
  refine LW.q rfl (Qt.move rfl) ?_
  first | refine LW.q rfl (Qt.eqlNil (by kernel_rfl) rfl rfl) ?_ | refine LW.q rfl (Qt.eqlNN (by kernel_rfl) rfl rfl) ?_
  refine LW.done ?_
  first | refine T.condF rfl ?_ | refine T.condPF rfl (by omega) ?_ | refine T.condBF rfl (by omega) ?_
  refine T.skip ?_
  refine T.seq ?_
  refine T.region ?_
  refine LW.q rfl (Qt.move rfl) ?_
  refine LW.q rfl (Qt.nilCheck rfl) ?_
  refine LW.q rfl (Qt.fieldAddr (off := 3) (by kernel_rfl) rfl) ?_
  refine LW.q rfl (Qt.load (v := .int .i64 x.pins) (by kernel_rfl) rfl (fm_at hx.at_ 3 (by omega))) ?_
  refine LW.q rfl (Qt.add rfl rfl (wr64 (by omega) (by omega))) ?_
  refine LW.q rfl (Qt.nilCheck rfl) ?_
  refine LW.q rfl (Qt.fieldAddr (off := 3) (by kernel_rfl) rfl) ?_
  refine LW.e0 rfl (Ef.store1 (by kernel_rfl) rfl rfl rfl (by omega) ?_)
  rw [fm_set (y := { x with pins := x.pins + 1 }) hx.at_ 3 (by omega) _ rfl]
  have h2 : (Fs.set i { x with pins := x.pins + 1 })[i]? = some { x with pins := x.pins + 1 } := by rw [List.getElem?_set_self hi]
  have hfl2 := fm_len (Fs.set i { x with pins := x.pins + 1 })
  rw [List.length_set] at hfl2
  refine LW.done ?_
  refine T.seq ?_
  refine T.region ?_
  refine LW.q rfl (Qt.move rfl) ?_
  refine LW.q rfl (Qt.nilCheck rfl) ?_
  refine LW.q rfl (Qt.fieldAddr (off := 5) (by kernel_rfl) rfl) ?_
  refine LW.e0 rfl (Ef.store1 (by kernel_rfl) rfl rfl rfl (by omega) ?_)
  rw [fm_set (y := { x with pins := x.pins + 1, used := true }) h2 5 (by omega) _ rfl, List.set_set]
  refine LW.done ?_
  refine T.seq ?_
  refine T.region ?_
  refine LW.q rfl (Qt.assign rfl) ?_
  refine LW.done ?_
  refine T.ret ?_
  exact ⟨.inl rfl, _, _, res [_] rfl ⟨rvT rfl, trivial⟩, ⟨rfl, rfl⟩, Sub.any⟩

theorem da_row {B : Base} {w : World} {L r r2 : List Assn} {Fs : List Fm} {i m c : Nat} {y : Fm} {p : Option Addr} {b : List UInt8} (hi : i < Fs.length) (hp : y.p = p) (hc : y.c = c) (hb : y.b = b) (hm : b.length = m) [k1 : TakeA (rB (.slice p m c) m b) L r] [k2 : TakeA (daA Fs) r r2] (H : Own B w L) : Own B w (daA (Fs.set i y) :: r2) := by
  subst hp; subst hc; subst hb; subst hm
  exact H.map fun h K => da_put hi _ (Has.cons_imp k2.take (k1.take _ K))

set_option maxHeartbeats 4000000 in
set_option maxRecDepth 100000 in
theorem Bp.pin_clock (B : Base) (g b gf n first count hand : Nat) (gp cl gl : Nat) (W : Wl) (D : DD) (Fs : List Fm) (page : Int) (j : Nat) (hj : page = j) (hjc : j < count) (hn : Fs.length = n) (hn2 : n ≤ 4096) (hh : hand < n)
    (hno : ∀ (k : Nat) (y : Fm), Fs[k]? = some y → y.page ≠ page)
    (hfr : ∀ (j : Nat) (x : Fm), Fs[j]? = some x → 0 ≤ x.page ∧ x.page < count ∧ x.b.length = 256) (hpt : ∀ (i : Nat) (x : Fm), Fs[i]? = some x → 0 < x.b.length → ∃ g, x.p = some ⟨g, 0, none⟩)
    (hun : (Fs.all fun x => decide (0 < x.pins)) = false) (hw : WOk W D) (ho : D.Ok) (hsec : first + count ≤ D.secs.length) (i h' : Nat) (A' : List Fa) (x' : Fa) (hc : clockA (2 * n + 1) (Fs.map Fm.a) hand = some (i, A', h')) (hx' : A'[i]? = some x')
    (W' : Wl) (D' : DD) (hW' : W' = (giveP first W D x').1) (hD' : D' = (giveP first W D x').2) (hl1 : D'.secs.length = D.secs.length) (hroom : D'.pend.length < 2 ^ 32) (dat : List UInt8) (hdat : D'.read (first + j) = dat) (hrl : dat.length = 256) :
    Fn Tryz.prog B 12 #[.pointer (some ⟨g, 0, none⟩), .int .i64 page] [poolB g b gf n first count hand (some ⟨gp, 0, none⟩) 1 cl, fmR gf n Fs, lgR (some ⟨gp, 0, none⟩) 1 cl [ifW gl], wlA gl b W, dskA b D, daA Fs]
      (fun u l => ∃ Fs', Fs'.map Fm.a = A'.set i (newA page dat) ∧ Fs'.length = n ∧ u = .int .i64 0 ∧ l = [poolB g b gf n first count h' (some ⟨gp, 0, none⟩) 1 cl, fmR gf n Fs', lgR (some ⟨gp, 0, none⟩) 1 cl [ifW gl], wlA gl b W', dskA b D', daA Fs']) := by
  subst hW'
  obtain ⟨ha1, ha2⟩ := clock_len hc
  rw [List.length_map, hn] at ha1 ha2
  have hmax := hw.max
  refine Fn.enter2 59 Tryz.func12 rfl rfl (Nat.le_of_ble_eq_true rfl) (fun F => ?_)
  try simp only [List.cons_append, List.nil_append]
  refine T.seq ?_
  refine T.region ?_
  refine LW.q rfl (Qt.assign rfl) ?_
  refine LW.done ?_
  refine T.seq ?_
  refine T.seq ?_
  refine T.region ?_
  refine LW.q rfl (Qt.move rfl) ?_
  refine LW.q rfl (Qt.lss rfl rfl) ?_
  refine LW.q rfl (Qt.move rfl) ?_
  first | refine LW.gF (t := 10) rfl rfl ?_ | refine LW.gF (t := 10) rfl (decide_eq_false (by omega)) ?_ | refine LW.gF (t := 10) rfl (by omega) ?_
  refine LW.q rfl (Qt.move rfl) ?_
  refine LW.q rfl (Qt.move rfl) ?_
  refine LW.q rfl (Qt.nilCheck rfl) ?_
  refine LW.q rfl (Qt.fieldAddr0 (by kernel_rfl) rfl) ?_
  refine LW.q rfl (Qt.fieldAddr (off := 2) (by kernel_rfl) rfl) ?_
  first | refine LW.q rfl (Qt.load (by kernel_rfl) rfl rfl) ?_ | refine LW.q rfl (Qt.load (by kernel_rfl) rfl (map_at _ _ _ (by omega))) ?_ | refine LW.q rfl (Qt.load (by kernel_rfl) rfl (flat_cell0 _ _ _ (by intros; rfl) _ (by omega) (by rfl))) ?_ | refine LW.q rfl (Qt.load (by kernel_rfl) rfl (flat_cell _ _ _ (by intros; rfl) _ _ (by omega) (by rfl))) ?_ | refine LW.q rfl (Qt.load (by kernel_rfl) rfl (bytes_at _ _ (by omega))) ?_
  refine LW.q rfl (Qt.geq rfl rfl) ?_
  refine LW.q rfl (Qt.pick rfl rfl) ?_
  refine LW.done ?_
  first | refine T.condF rfl ?_ | refine T.condPF rfl (by omega) ?_ | refine T.condBF rfl (by omega) ?_
  refine T.skip ?_
  refine T.seq ?_
  refine T.region ?_
  refine LW.q rfl (Qt.move rfl) ?_
  refine LW.q rfl (Qt.move rfl) ?_
  refine LW.e rfl (Ef.call (Bf.find_none B g b gf n first count hand (some ⟨gp, 0, none⟩) 1 cl Fs page hn hn2 (fun j y hj e => absurd e (hno j y hj))) Tryz.func39 rfl rfl rfl ?_)
  rintro _ _ ⟨rfl, rfl⟩
  try simp only [List.cons_append, List.nil_append]
  refine LW.q rfl (Qt.assign rfl) ?_
  refine LW.done ?_
  refine T.seq ?_
  refine T.seq ?_
  refine T.region ?_
  refine LW.q rfl (Qt.move rfl) ?_
  first | refine LW.q rfl (Qt.eqlNil (by kernel_rfl) rfl rfl) ?_ | refine LW.q rfl (Qt.eqlNN (by kernel_rfl) rfl rfl) ?_
  refine LW.done ?_
  first | refine T.condT rfl ?_ | refine T.condPT rfl (by omega) ?_ | refine T.condBT rfl (by omega) ?_
  refine T.seq ?_
  refine T.region ?_
  refine LW.q rfl (Qt.move rfl) ?_
  refine LW.e rfl (Ef.call (Bp.victim_clock B g b gf n first count hand gp cl gl W D Fs hn hn2 hh hfr hpt hun hw ho hsec i h' A' x' hc hx') Tryz.func40 rfl rfl rfl ?_)
  rintro _ _ ⟨Fs2, hA2, hl2, rfl, rfl⟩
  try simp only [List.cons_append, List.nil_append]
  rw [← hD']
  refine LW.q rfl (Qt.assign rfl) ?_
  refine LW.done ?_
  refine T.seq ?_
  refine T.seq ?_
  refine T.region ?_
  refine LW.q rfl (Qt.move rfl) ?_
  first | refine LW.q rfl (Qt.eqlNil (by kernel_rfl) rfl rfl) ?_ | refine LW.q rfl (Qt.eqlNN (by kernel_rfl) rfl rfl) ?_
  refine LW.done ?_
  first | refine T.condF rfl ?_ | refine T.condPF rfl (by omega) ?_ | refine T.condBF rfl (by omega) ?_
  refine T.skip ?_
  refine T.seq ?_
  refine T.drawBl 17 none (by kernel_rfl) (Nat.le_of_ble_eq_true rfl) (by kernel_rfl) ?_
  refine RW.q 0 rfl rfl (by kernel_rfl) Sub.any (Qt.move rfl) ?_
  refine RW.q 1 rfl rfl (by kernel_rfl) Sub.any (Qt.nilCheck rfl) ?_
  refine RW.q 2 rfl rfl (by kernel_rfl) Sub.any (Qt.fieldAddr0 (by kernel_rfl) rfl) ?_
  refine RW.q 3 rfl rfl (by kernel_rfl) Sub.any (Qt.fieldAddr0 (by kernel_rfl) rfl) ?_
  first | refine RW.q 4 rfl rfl (by kernel_rfl) Sub.any (Qt.load (by kernel_rfl) rfl rfl) ?_ | refine RW.q 4 rfl rfl (by kernel_rfl) Sub.any (Qt.load (by kernel_rfl) rfl (map_at _ _ _ (by omega))) ?_ | refine RW.q 4 rfl rfl (by kernel_rfl) Sub.any (Qt.load (by kernel_rfl) rfl (flat_cell0 _ _ _ (by intros; rfl) _ (by omega) (by rfl))) ?_ | refine RW.q 4 rfl rfl (by kernel_rfl) Sub.any (Qt.load (by kernel_rfl) rfl (flat_cell _ _ _ (by intros; rfl) _ _ (by omega) (by rfl))) ?_ | refine RW.q 4 rfl rfl (by kernel_rfl) Sub.any (Qt.load (by kernel_rfl) rfl (bytes_at _ _ (by omega))) ?_
  refine RW.q 5 rfl rfl (by kernel_rfl) Sub.any (Qt.move rfl) ?_
  refine RW.q 6 rfl rfl (by kernel_rfl) Sub.any (Qt.nilCheck rfl) ?_
  refine RW.q 7 rfl rfl (by kernel_rfl) Sub.any (Qt.fieldAddr0 (by kernel_rfl) rfl) ?_
  refine RW.q 8 rfl rfl (by kernel_rfl) Sub.any (Qt.fieldAddr (off := 1) (by kernel_rfl) rfl) ?_
  first | refine RW.q 9 rfl rfl (by kernel_rfl) Sub.any (Qt.load (by kernel_rfl) rfl rfl) ?_ | refine RW.q 9 rfl rfl (by kernel_rfl) Sub.any (Qt.load (by kernel_rfl) rfl (map_at _ _ _ (by omega))) ?_ | refine RW.q 9 rfl rfl (by kernel_rfl) Sub.any (Qt.load (by kernel_rfl) rfl (flat_cell0 _ _ _ (by intros; rfl) _ (by omega) (by rfl))) ?_ | refine RW.q 9 rfl rfl (by kernel_rfl) Sub.any (Qt.load (by kernel_rfl) rfl (flat_cell _ _ _ (by intros; rfl) _ _ (by omega) (by rfl))) ?_ | refine RW.q 9 rfl rfl (by kernel_rfl) Sub.any (Qt.load (by kernel_rfl) rfl (bytes_at _ _ (by omega))) ?_
  refine RW.q 10 rfl rfl (by kernel_rfl) Sub.any (Qt.move rfl) ?_
  refine RW.q 11 rfl rfl (by kernel_rfl) Sub.any (Qt.add rfl rfl (wr64 (by omega) (by omega))) ?_
  refine RW.one 12 (by kernel_rfl) ?_
  refine RO.eS rfl rfl (Ef.call (Dk.readF B b D' (first + j) _ (by omega) (by omega) hroom) Tryz.func16 rfl rfl rfl ?_)
  rintro _ _ ⟨gx, cx, rfl, rfl⟩
  try simp only [List.cons_append, List.nil_append]
  rw [hdat]
  have hi : i < Fs2.length := by omega
  have hfl := fm_len Fs2
  refine ⟨Sub.any, ?_⟩
  refine RW.q 13 rfl rfl (by kernel_rfl) Sub.any (Qt.move rfl) ?_
  refine RW.q 14 rfl rfl (by kernel_rfl) Sub.any (Qt.extract rfl rfl) ?_
  refine RW.q 15 rfl rfl (by kernel_rfl) Sub.any (Qt.extract rfl rfl) ?_
  refine RW.q 16 rfl rfl (by kernel_rfl) Sub.any (Qt.assign rfl) ?_
  refine RW.done (by rfl) ?_
  simp only [List.drop_succ_cons, List.drop_zero, List.drop_nil]
  refine LW.q rfl (Qt.assign rfl) ?_
  refine LW.done ?_
  refine T.region ?_
  refine LW.q rfl (Qt.move rfl) ?_
  refine LW.q rfl (Qt.move rfl) ?_
  refine LW.q rfl (Qt.move rfl) ?_
  refine LW.q rfl (Qt.build [(0, 1), (1, 1), (2, 1), (3, 1), (4, 1), (5, 1)] [.int .i64 0, .slice none 0 0, .int .i64 0, .int .i64 0, .bool false, .bool false] [_, _, _, _, _, _] [(0, _), (1, _)] (by kernel_rfl) (by unfold zeroB; kernel_rfl) rfl rfl) ?_
  refine LW.q rfl (Qt.nilCheck rfl) ?_
  refine LW.e0 rfl (Ef.store (fmC ⟨page, 0, 0, false, false, some ⟨gx, 0, none⟩, cx, dat⟩) (by kernel_rfl) rfl rfl (by simp only [fmC, hrl]; rfl) rfl (by simp only [List.length_cons, List.length_nil]; omega) ?_)
  rw [fm_splice hi]
  have h2 : (Fs2.set i ⟨page, 0, 0, false, false, some ⟨gx, 0, none⟩, cx, dat⟩)[i]? = some ⟨page, 0, 0, false, false, some ⟨gx, 0, none⟩, cx, dat⟩ := by rw [List.getElem?_set_self hi]
  have hfl2 := fm_len (Fs2.set i ⟨page, 0, 0, false, false, some ⟨gx, 0, none⟩, cx, dat⟩)
  rw [List.length_set] at hfl2
  refine LW.done ?_
  refine T.seq ?_
  refine T.region ?_
  refine LW.q rfl (Qt.move rfl) ?_
  refine LW.q rfl (Qt.nilCheck rfl) ?_
  refine LW.q rfl (Qt.fieldAddr (off := 3) (by kernel_rfl) rfl) ?_
  refine LW.q rfl (Qt.load (v := .int .i64 0) (by kernel_rfl) rfl (fm_at h2 3 (by omega))) ?_
  refine LW.q rfl (Qt.add rfl rfl (wr64 (by omega) (by omega))) ?_
  refine LW.q rfl (Qt.nilCheck rfl) ?_
  refine LW.q rfl (Qt.fieldAddr (off := 3) (by kernel_rfl) rfl) ?_
  refine LW.e0 rfl (Ef.store1 (by kernel_rfl) rfl rfl rfl (by omega) ?_)
  rw [fm_set (y := ⟨page, 0, 1, false, false, some ⟨gx, 0, none⟩, cx, dat⟩) h2 3 (by omega) (.int .i64 (0 + 1)) rfl, List.set_set]
  have h3 : (Fs2.set i ⟨page, 0, 1, false, false, some ⟨gx, 0, none⟩, cx, dat⟩)[i]? = some ⟨page, 0, 1, false, false, some ⟨gx, 0, none⟩, cx, dat⟩ := by rw [List.getElem?_set_self hi]
  have hfl3 := fm_len (Fs2.set i ⟨page, 0, 1, false, false, some ⟨gx, 0, none⟩, cx, dat⟩)
  rw [List.length_set] at hfl3
  refine LW.done ?_
  refine T.seq ?_
  refine T.region ?_
  refine LW.q rfl (Qt.move rfl) ?_
  refine LW.q rfl (Qt.nilCheck rfl) ?_
  refine LW.q rfl (Qt.fieldAddr (off := 5) (by kernel_rfl) rfl) ?_
  refine LW.e0 rfl (Ef.store1 (by kernel_rfl) rfl rfl rfl (by omega) ?_)
  rw [fm_set (y := fmNew page (some ⟨gx, 0, none⟩) cx dat) h3 5 (by omega) _ rfl, List.set_set]
  refine LW.done ?_
  refine T.seq ?_
  refine T.region ?_
  refine LW.q rfl (Qt.assign rfl) ?_
  refine LW.done ?_
  refine T.conv (fun w ho => da_row (Fs := Fs2) (y := fmNew page (some ⟨gx, 0, none⟩) cx dat) hi rfl rfl rfl hrl ho) ?_
  refine T.ret ?_
  exact ⟨.inl rfl, _, _, res [_] rfl ⟨rvT rfl, trivial⟩, ⟨Fs2.set i (fmNew page (some ⟨gx, 0, none⟩) cx dat), by rw [List.map_set, hA2]; rfl, by rw [List.length_set]; exact hl2, rfl, rfl⟩, Sub.any⟩

/-! what Pin comes to, case by case -/
section
variable {first count n : Nat} {s : Pl} {page : Int}
theorem pinP_range (h : page < 0 ∨ (count : Int) ≤ page) : pinP first count s page = (s, 1) := by unfold pinP; rw [if_pos h]
theorem pinP_found {i : Nat} {x : Fa} (h : ¬ (page < 0 ∨ (count : Int) ≤ page)) (hf : findA s.A page = some i) (hx : s.A[i]? = some x) : pinP first count s page = ({ s with A := s.A.set i (upA x) }, 0) := by unfold pinP; rw [if_neg h, hf]; dsimp only; rw [hx]
theorem pinP_free {i : Nat} (h : ¬ (page < 0 ∨ (count : Int) ≤ page)) (hf : findA s.A page = none) (hx : s.A.findIdx? (fun x => decide (x.page < 0)) = some i) : pinP first count s page = ({ s with A := s.A.set i (newA page (s.D.read (first + page.toNat))) }, 0) := by
  unfold pinP; rw [if_neg h, hf]; dsimp only; unfold victimP; rw [hx]
theorem pinP_full (h : ¬ (page < 0 ∨ (count : Int) ≤ page)) (hf : findA s.A page = none) (hx : s.A.findIdx? (fun x => decide (x.page < 0)) = none) (ha : (s.A.all fun x => decide (0 < x.pins)) = true) : pinP first count s page = (s, 60) := by
  unfold pinP; rw [if_neg h, hf]; dsimp only; unfold victimP; rw [hx]; dsimp only; rw [if_pos ha]
theorem pinP_clock {i h' : Nat} {A' : List Fa} {x' : Fa} (h : ¬ (page < 0 ∨ (count : Int) ≤ page)) (hf : findA s.A page = none) (hx : s.A.findIdx? (fun x => decide (x.page < 0)) = none) (ha : (s.A.all fun x => decide (0 < x.pins)) = false) (hc : clockA (2 * s.A.length + 1) s.A s.hand = some (i, A', h')) (hx' : A'[i]? = some x') :
    pinP first count s page = (⟨A'.set i (newA page ((giveP first s.W s.D x').2.read (first + page.toNat))), h', (giveP first s.W s.D x').1, (giveP first s.W s.D x').2⟩, 0) := by
  unfold pinP; rw [if_neg h, hf]; dsimp only; unfold victimP; rw [hx]; dsimp only; rw [if_neg (by rw [ha]; simp), hc]; dsimp only; rw [hx']
/-- The cases of Pin. -/
inductive PinC (first count : Nat) (s : Pl) (page : Int) : Pl × Int → Prop
  | range (h : page < 0 ∨ (count : Int) ≤ page) : PinC first count s page (s, 1)
  | found (i : Nat) (x : Fa) (h : ¬ (page < 0 ∨ (count : Int) ≤ page)) (hf : findA s.A page = some i) (hx : s.A[i]? = some x) : PinC first count s page ({ s with A := s.A.set i (upA x) }, 0)
  | free (i : Nat) (x : Fa) (h : ¬ (page < 0 ∨ (count : Int) ≤ page)) (hf : findA s.A page = none) (hi : s.A[i]? = some x) (hp : x.page < 0) (hfirst : ∀ (k : Nat), k < i → ∀ y : Fa, s.A[k]? = some y → 0 ≤ y.page) : PinC first count s page ({ s with A := s.A.set i (newA page (s.D.read (first + page.toNat))) }, 0)
  | full (h : ¬ (page < 0 ∨ (count : Int) ≤ page)) (hf : findA s.A page = none) (hx : ∀ (j : Nat) (y : Fa), s.A[j]? = some y → 0 ≤ y.page ∧ 0 < y.pins) : PinC first count s page (s, 60)
  | clock (i h' : Nat) (A' : List Fa) (x' : Fa) (h : ¬ (page < 0 ∨ (count : Int) ≤ page)) (hf : findA s.A page = none) (hx : ∀ (j : Nat) (y : Fa), s.A[j]? = some y → 0 ≤ y.page) (ha : (s.A.all fun x => decide (0 < x.pins)) = false) (hc : clockA (2 * s.A.length + 1) s.A s.hand = some (i, A', h')) (hx' : A'[i]? = some x') (hup : ¬ 0 < x'.pins) :
      PinC first count s page (⟨A'.set i (newA page ((giveP first s.W s.D x').2.read (first + page.toNat))), h', (giveP first s.W s.D x').1, (giveP first s.W s.D x').2⟩, 0)
theorem pin_cases (hh : s.hand < s.A.length) : PinC first count s page (pinP first count s page) := by
  by_cases h : page < 0 ∨ (count : Int) ≤ page
  · rw [pinP_range h]; exact .range h
  · cases hf : findA s.A page with
    | some i =>
      obtain ⟨_, x, hx, _⟩ := findA_some hf
      rw [pinP_found h hf hx]
      exact .found i x h hf hx
    | none =>
      cases hx : s.A.findIdx? (fun x => decide (x.page < 0)) with
      | some i =>
        rw [pinP_free h hf hx]
        obtain ⟨hi, h1, h2⟩ := List.findIdx?_eq_some_iff_getElem.1 hx
        refine .free i s.A[i] h hf (List.getElem?_eq_getElem hi) (of_decide_eq_true h1) fun k hk y hy => ?_
        have hkl := (List.getElem?_eq_some_iff.1 hy).1
        have := h2 k hk
        rw [List.getElem?_eq_getElem hkl] at hy
        cases hy
        have := of_decide_eq_false (Bool.eq_false_iff.2 this)
        omega
      | none =>
        have hge : ∀ (j : Nat) (y : Fa), s.A[j]? = some y → 0 ≤ y.page := fun j y hy => by
          have := List.findIdx?_eq_none_iff.1 hx y (List.mem_of_getElem? hy)
          have := of_decide_eq_false this
          omega
        cases ha : s.A.all fun x => decide (0 < x.pins) with
        | true =>
          rw [pinP_full h hf hx ha]
          exact .full h hf fun j y hy => ⟨hge j y hy, of_decide_eq_true (List.all_eq_true.1 ha y (List.mem_of_getElem? hy))⟩
        | false =>
          obtain ⟨⟨i, A', h'⟩, hc⟩ := clock_some hh ha
          obtain ⟨_, x', hx', hup⟩ := clock_at hc hh
          rw [pinP_clock h hf hx ha hc hx']
          exact .clock i h' A' x' h hf hge ha hc hx' hup
end
theorem fr_ok {count n : Nat} {A : List Fa} (hF : FOk count n A) {j : Nat} {y : Fa} (hy : A[j]? = some y) (h0 : 0 ≤ y.page) : 0 ≤ y.page ∧ y.page < count ∧ y.b.length = 256 ∧ 0 ≤ y.pins := by
  rcases hF.fr y (List.mem_of_getElem? hy) with rfl | h
  · exact absurd h0 (by decide)
  · exact h
theorem WOk.give {first : Nat} {W : Wl} {D : DD} (h : WOk W D) (ho : D.Ok) (hp : D.pend.length + 16384 + 1 < 2 ^ 32) (x : Fa) (hx : first + x.page.toNat < D.secs.length) (hb : x.b.length = 256) : WOk (giveP first W D x).1 (giveP first W D x).2 ∧ (giveP first W D x).2.Ok ∧ (giveP first W D x).2.secs.length = D.secs.length ∧ (giveP first W D x).2.pend.length ≤ D.pend.length + 1 ∧ (giveP first W D x).1.first = W.first ∧ (giveP first W D x).1.count = W.count ∧ (giveP first W D x).1.st = W.st := by
  obtain ⟨f1, f2, f3, f4, f5, f6, f7⟩ := h.force ho x.mark h.room
  unfold giveP
  split
  · refine ⟨⟨f1.fit, f1.max, f1.st, f1.dur, ?_⟩, f2.wr2 _ _ (by omega) hb, f3, ?_, f5, f6, f7⟩
    · simp [DD.write]; omega
    · simp [DD.write]; omega
  · exact ⟨h, ho, rfl, Nat.le_succ _, rfl, rfl, rfl⟩

set_option maxHeartbeats 1000000 in
theorem Bp.pin (B : Base) (g b n first count hand gl : Nat) (A : List Fa) (W : Wl) (D : DD) (page : Int) (hF : FOk count n A) (hpin : ∀ x ∈ A, x.pins < 2 ^ 62) (hh : hand < n) (hw : WOk W D) (ho : D.Ok) (hp : D.pend.length + 16384 + 1 < 2 ^ 32) (hsec : first + count ≤ D.secs.length) :
    Fn Tryz.prog B 12 #[.pointer (some ⟨g, 0, none⟩), .int .i64 page] [plA g b n first count hand gl A, wlA gl b W, dskA b D]
      (fun u l => u = .int .i64 (pinP first count ⟨A, hand, W, D⟩ page).2 ∧ l = [plA g b n first count (pinP first count ⟨A, hand, W, D⟩ page).1.hand gl (pinP first count ⟨A, hand, W, D⟩ page).1.A, wlA gl b (pinP first count ⟨A, hand, W, D⟩ page).1.W, dskA b (pinP first count ⟨A, hand, W, D⟩ page).1.D]) := by
  refine Fn.openPl fun q hA hptr ⟨gp, hgp⟩ => ?_
  obtain ⟨Fs, gf, pl, cl⟩ := q
  dsimp only at hA hptr hgp ⊢
  subst hgp
  simp only [plC, List.cons_append, List.nil_append]
  have hl : Fs.length = n := by rw [← hF.len, ← hA, List.length_map]
  have hn2 := hF.n2
  have hwm := hw.max
  have hwr := hw.room
  have hs : ∀ (A' : List Fa) (h' : Nat) (W' : Wl) (D' : DD) (Fs' : List Fm), Fs'.map Fm.a = A' → Sub [poolB g b gf n first count h' (some ⟨gp, 0, none⟩) 1 cl, fmR gf n Fs', lgR (some ⟨gp, 0, none⟩) 1 cl [ifW gl], daA Fs', wlA gl b W', dskA b D'] [plA g b n first count h' gl A', wlA gl b W', dskA b D'] := fun A' h' W' D' Fs' e => sub_pl ⟨Fs', gf, some ⟨gp, 0, none⟩, cl⟩ e
  have hc := pin_cases (first := first) (count := count) (page := page) (s := ⟨A, hand, W, D⟩) (by rw [hF.len]; exact hh)
  generalize hr : pinP first count ⟨A, hand, W, D⟩ page = res at hc ⊢
  cases hc with
  | range h =>
    refine Fn.wide (Bf.pin_range B g b gf n first count hand (some ⟨gp, 0, none⟩) 1 cl page h) ?_
    rintro v l' ⟨rfl, rfl⟩
    simp only [List.cons_append, List.nil_append]
    exact ⟨_, hs A hand W D Fs hA, by simp, rfl⟩
  | found i x h hf hx =>
    obtain ⟨z, hz⟩ := fd_of hA hf
    obtain rfl : z.a = x := by have := map_a_at hA hz.at_; dsimp only at hx; rw [hx] at this; exact (Option.some.inj this).symm
    have hpz : 0 ≤ z.a.pins := (fr_ok hF hx (by rw [show z.a.page = z.page from rfl, hz.pg]; omega)).2.2.2
    refine Fn.wide (Bf.pin_found B g b gf n first count hand (some ⟨gp, 0, none⟩) 1 cl Fs page (by omega) (by omega) i z hl hn2 hz hpz (hpin z.a (List.mem_of_getElem? hx))) ?_
    rintro v l' ⟨rfl, rfl⟩
    simp only [List.cons_append, List.nil_append]
    refine ⟨_, ?_, by simp, rfl⟩
    have := hs (A.set i (upA z.a)) hand W D (Fs.set i { z with pins := z.pins + 1, used := true }) (by rw [List.map_set, hA]; rfl)
    rw [da_same (y := { z with pins := z.pins + 1, used := true }) hz.at_ rfl rfl rfl] at this
    exact fun k K => this k (Sub.any k K)
  | free i x h hf hi hp2 hfirst =>
    obtain ⟨z, hz, rfl⟩ := map_a_back hA hi
    have hil : i < Fs.length := (List.getElem?_eq_some_iff.1 hz).1
    have hrl := ho.rd (first + page.toNat) (by omega)
    refine Fn.wide (Bf.pin_free B g b gf n first count hand (some ⟨gp, 0, none⟩) 1 cl Fs D page page.toNat (by omega) (by omega) hl hn2 (nofd_of hA hf (by omega)) i z hz hp2 (fun k hk y hy => hfirst k hk y.a (map_a_at hA hy)) (by omega) (by omega) (by omega) hrl) ?_
    rintro v l' ⟨gx, c, rfl, rfl⟩
    simp only [List.cons_append, List.nil_append]
    refine ⟨_, ?_, by simp, rfl⟩
    have := hs (A.set i (newA page (D.read (first + page.toNat)))) hand W D (Fs.set i (fmNew page (some ⟨gx, 0, none⟩) c (D.read (first + page.toNat)))) (by rw [List.map_set, hA]; rfl)
    refine fun k K => this k ?_
    have K2 : Has (rB (.slice (some ⟨gx, 0, none⟩) 256 c) 256 (D.read (first + page.toNat)) :: daA Fs :: [poolB g b gf n first count hand (some ⟨gp, 0, none⟩) 1 cl, fmR gf n (Fs.set i (fmNew page (some ⟨gx, 0, none⟩) c (D.read (first + page.toNat)))), lgR (some ⟨gp, 0, none⟩) 1 cl [ifW gl], wlA gl b W, dskA b D]) k := Sub.any k K
    have K3 : Has (fmD (fmNew page (some ⟨gx, 0, none⟩) c (D.read (first + page.toNat))) :: daA Fs :: [poolB g b gf n first count hand (some ⟨gp, 0, none⟩) 1 cl, fmR gf n (Fs.set i (fmNew page (some ⟨gx, 0, none⟩) c (D.read (first + page.toNat)))), lgR (some ⟨gp, 0, none⟩) 1 cl [ifW gl], wlA gl b W, dskA b D]) k := by
      rw [fmD]
      dsimp only
      rw [hrl]
      exact K2
    have K4 := da_put hil k K3
    exact Sub.any k K4
  | full h hf hx =>
    refine Fn.wide (Bf.pin_full B g b gf n first count hand (some ⟨gp, 0, none⟩) 1 cl Fs page (by omega) (by omega) hl hn2 (nofd_of hA hf (by omega)) (fun j y hy => hx j y.a (map_a_at hA hy))) ?_
    rintro v l' ⟨rfl, rfl⟩
    simp only [List.cons_append, List.nil_append]
    exact ⟨_, fun k K => hs A hand W D Fs hA k (Sub.any k K), by simp, rfl⟩
  | clock i h' A' x' h hf hx ha hc hx' hup =>
    dsimp only at hc ha hx hf
    obtain ⟨y, hy, q1, q2, q3, q4, q5⟩ := clock_fr hc i x' hx'
    have hyo := fr_ok hF hy (hx i y hy)
    obtain ⟨f1, f2, f3, f4, f5, f6, f7⟩ := hw.give (first := first) ho hp x' (by rw [q1]; omega) (by rw [q5]; exact hyo.2.2.1)
    refine Fn.wide (Bp.pin_clock B g b gf n first count hand gp cl gl W D Fs page page.toNat (by omega) (by omega) hl hn2 hh (nofd_of hA hf (by omega)) (fun j z hz => by have := fr_ok hF (map_a_at hA hz) (hx j z.a (map_a_at hA hz)); exact ⟨this.1, this.2.1, this.2.2.1⟩) hptr (by rw [← hA, List.all_map] at ha; exact ha) hw ho hsec i h' A' x' (by rw [hA, ← hF.len]; exact hc) hx' _ _ rfl rfl f3 (by omega) _ rfl (f2.rd _ (by rw [f3]; omega))) ?_
    rintro v l' ⟨Fs', e1, e2, rfl, rfl⟩
    simp only [List.cons_append, List.nil_append]
    exact ⟨_, fun k K => hs _ h' _ _ Fs' e1 k (Sub.any k K), by simp, rfl⟩
end Go.Proofs.YtegohgaccmkigaaGreatDoor

/- The statements of the package buffer: laid, full, awake. Conditions: sizes. -/
set_option linter.unusedSimpArgs false
set_option linter.unusedVariables false
namespace Go.Proofs.YtegohgaccmkigaaGreatDoor
open Go.RowKit

theorem one_at {x y : Fm} {k : Nat} (h : ([x] : List Fm)[k]? = some y) : y = x := by
  cases k with
  | zero => simpa using h.symm
  | succ k => simp at h

set_option maxHeartbeats 4000000 in
set_option maxRecDepth 100000 in
theorem Bf.pin_one (B : Base) (g b gf first count : Nat) (pl : Option Addr) (cl : Nat) (x : Fm) (gl : Nat) (W : Wl) (D D' : DD) (jx : Nat) (hjx : x.page = jx) (hx1 : x.pins = 0) (hx2 : x.used = true) (hx3 : x.dirty = true) (hx4 : x.b.length = 256) (gx cx : Nat) (bx : List UInt8) (hgx : x.p = some ⟨gx, 0, none⟩) (hcx : x.c = cx) (hbx : x.b = bx) (hdur : W.dur < 2 ^ 40) (hm : x.mark ≤ W.dur) (hsecx : first + jx < D.secs.length)
    (page : Int) (j : Nat) (hj : page = j) (hc : j < count) (hne : jx ≠ j) (hsec : first + count ≤ D.secs.length) (hmx : D.secs.length ≤ 4096) (hroom : D.pend.length + 1 < 2 ^ 32) (hD' : D' = D.write (first + jx) bx) (dat : List UInt8) (hdat : D'.read (first + j) = dat) (hrl : dat.length = 256) :
    Fn Tryz.prog B 12 #[.pointer (some ⟨g, 0, none⟩), .int .i64 page] [poolB g b gf 1 first count 0 pl 1 cl, fmR gf 1 [x], lgR pl 1 cl [ifW gl], wlA gl b W, dskA b D, rB (.slice (some ⟨gx, 0, none⟩) 256 cx) 256 bx]
      (fun u l => ∃ gy c, u = .int .i64 0 ∧ l = [rB (.slice (some ⟨gy, 0, none⟩) 256 c) 256 dat, poolB g b gf 1 first count 0 pl 1 cl, fmR gf 1 [fmNew page (some ⟨gy, 0, none⟩) c dat], lgR pl 1 cl [ifW gl], wlA gl b W, dskA b D']) := by
  subst hcx; subst hbx; subst hD'
  have hl1 : (D.write (first + jx) x.b).secs.length = D.secs.length := rfl
  have hl2 : (D.write (first + jx) x.b).pend.length = D.pend.length + 1 := by simp [DD.write]
  obtain ⟨D', hD'⟩ : ∃ D', D.write (first + jx) x.b = D' := ⟨_, rfl⟩
  rw [hD'] at hl1 hl2 hdat ⊢
  refine Fn.enter2 59 Tryz.func12 rfl rfl (Nat.le_of_ble_eq_true rfl) (fun F => ?_)
  try simp only [List.cons_append, List.nil_append]
  refine T.seq ?_
  refine T.region ?_
  refine LW.q rfl (Qt.assign rfl) ?_
  refine LW.done ?_
  refine T.seq ?_
  refine T.seq ?_
  refine T.region ?_
  refine LW.q rfl (Qt.move rfl) ?_
  refine LW.q rfl (Qt.lss rfl rfl) ?_
  refine LW.q rfl (Qt.move rfl) ?_
  first | refine LW.gF (t := 10) rfl rfl ?_ | refine LW.gF (t := 10) rfl (decide_eq_false (by omega)) ?_ | refine LW.gF (t := 10) rfl (by omega) ?_
  refine LW.q rfl (Qt.move rfl) ?_
  refine LW.q rfl (Qt.move rfl) ?_
  refine LW.q rfl (Qt.nilCheck rfl) ?_
  refine LW.q rfl (Qt.fieldAddr0 (by kernel_rfl) rfl) ?_
  refine LW.q rfl (Qt.fieldAddr (off := 2) (by kernel_rfl) rfl) ?_
  first | refine LW.q rfl (Qt.load (by kernel_rfl) rfl rfl) ?_ | refine LW.q rfl (Qt.load (by kernel_rfl) rfl (map_at _ _ _ (by omega))) ?_ | refine LW.q rfl (Qt.load (by kernel_rfl) rfl (flat_cell0 _ _ _ (by intros; rfl) _ (by omega) (by rfl))) ?_ | refine LW.q rfl (Qt.load (by kernel_rfl) rfl (flat_cell _ _ _ (by intros; rfl) _ _ (by omega) (by rfl))) ?_ | refine LW.q rfl (Qt.load (by kernel_rfl) rfl (bytes_at _ _ (by omega))) ?_
  refine LW.q rfl (Qt.geq rfl rfl) ?_
  refine LW.q rfl (Qt.pick rfl rfl) ?_
  refine LW.done ?_
  first | refine T.condF rfl ?_ | refine T.condPF rfl (by omega) ?_ | refine T.condBF rfl (by omega) ?_
  refine T.skip ?_
  refine T.seq ?_
  refine T.region ?_
  refine LW.q rfl (Qt.move rfl) ?_
  refine LW.q rfl (Qt.move rfl) ?_
  refine LW.e rfl (Ef.call (Bf.find_none B g b gf 1 first count 0 pl 1 cl [x] page rfl (by omega) (fun k y hk e => by have := List.getElem?_eq_some_iff.1 hk; obtain ⟨h1, h2⟩ := this; simp at h1; subst h1; simp at h2; subst h2; omega)) Tryz.func39 rfl rfl rfl ?_)
  rintro _ _ ⟨rfl, rfl⟩
  try simp only [List.cons_append, List.nil_append]
  refine LW.q rfl (Qt.assign rfl) ?_
  refine LW.done ?_
  refine T.seq ?_
  refine T.seq ?_
  refine T.region ?_
  refine LW.q rfl (Qt.move rfl) ?_
  first | refine LW.q rfl (Qt.eqlNil (by kernel_rfl) rfl rfl) ?_ | refine LW.q rfl (Qt.eqlNN (by kernel_rfl) rfl rfl) ?_
  refine LW.done ?_
  first | refine T.condT rfl ?_ | refine T.condPT rfl (by omega) ?_ | refine T.condBT rfl (by omega) ?_
  refine T.seq ?_
  refine T.region ?_
  refine LW.q rfl (Qt.move rfl) ?_
  refine LW.e rfl (Ef.call (Bf.victim_one B g b gf first count pl cl x gl W D jx hjx hx1 hx2 hx3 hx4 gx hgx hdur hm hsecx hmx (by omega)) Tryz.func40 rfl rfl rfl ?_)
  rintro _ _ ⟨rfl, rfl⟩
  try simp only [List.cons_append, List.nil_append]
  rw [hD']
  refine LW.q rfl (Qt.assign rfl) ?_
  refine LW.done ?_
  refine T.seq ?_
  refine T.seq ?_
  refine T.region ?_
  refine LW.q rfl (Qt.move rfl) ?_
  first | refine LW.q rfl (Qt.eqlNil (by kernel_rfl) rfl rfl) ?_ | refine LW.q rfl (Qt.eqlNN (by kernel_rfl) rfl rfl) ?_
  refine LW.done ?_
  first | refine T.condF rfl ?_ | refine T.condPF rfl (by omega) ?_ | refine T.condBF rfl (by omega) ?_
  refine T.skip ?_
  refine T.seq ?_
  refine T.drawBl 17 none (by kernel_rfl) (Nat.le_of_ble_eq_true rfl) (by kernel_rfl) ?_
  refine RW.q 0 rfl rfl (by kernel_rfl) Sub.any (Qt.move rfl) ?_
  refine RW.q 1 rfl rfl (by kernel_rfl) Sub.any (Qt.nilCheck rfl) ?_
  refine RW.q 2 rfl rfl (by kernel_rfl) Sub.any (Qt.fieldAddr0 (by kernel_rfl) rfl) ?_
  refine RW.q 3 rfl rfl (by kernel_rfl) Sub.any (Qt.fieldAddr0 (by kernel_rfl) rfl) ?_
  first | refine RW.q 4 rfl rfl (by kernel_rfl) Sub.any (Qt.load (by kernel_rfl) rfl rfl) ?_ | refine RW.q 4 rfl rfl (by kernel_rfl) Sub.any (Qt.load (by kernel_rfl) rfl (map_at _ _ _ (by omega))) ?_ | refine RW.q 4 rfl rfl (by kernel_rfl) Sub.any (Qt.load (by kernel_rfl) rfl (flat_cell0 _ _ _ (by intros; rfl) _ (by omega) (by rfl))) ?_ | refine RW.q 4 rfl rfl (by kernel_rfl) Sub.any (Qt.load (by kernel_rfl) rfl (flat_cell _ _ _ (by intros; rfl) _ _ (by omega) (by rfl))) ?_ | refine RW.q 4 rfl rfl (by kernel_rfl) Sub.any (Qt.load (by kernel_rfl) rfl (bytes_at _ _ (by omega))) ?_
  refine RW.q 5 rfl rfl (by kernel_rfl) Sub.any (Qt.move rfl) ?_
  refine RW.q 6 rfl rfl (by kernel_rfl) Sub.any (Qt.nilCheck rfl) ?_
  refine RW.q 7 rfl rfl (by kernel_rfl) Sub.any (Qt.fieldAddr0 (by kernel_rfl) rfl) ?_
  refine RW.q 8 rfl rfl (by kernel_rfl) Sub.any (Qt.fieldAddr (off := 1) (by kernel_rfl) rfl) ?_
  first | refine RW.q 9 rfl rfl (by kernel_rfl) Sub.any (Qt.load (by kernel_rfl) rfl rfl) ?_ | refine RW.q 9 rfl rfl (by kernel_rfl) Sub.any (Qt.load (by kernel_rfl) rfl (map_at _ _ _ (by omega))) ?_ | refine RW.q 9 rfl rfl (by kernel_rfl) Sub.any (Qt.load (by kernel_rfl) rfl (flat_cell0 _ _ _ (by intros; rfl) _ (by omega) (by rfl))) ?_ | refine RW.q 9 rfl rfl (by kernel_rfl) Sub.any (Qt.load (by kernel_rfl) rfl (flat_cell _ _ _ (by intros; rfl) _ _ (by omega) (by rfl))) ?_ | refine RW.q 9 rfl rfl (by kernel_rfl) Sub.any (Qt.load (by kernel_rfl) rfl (bytes_at _ _ (by omega))) ?_
  refine RW.q 10 rfl rfl (by kernel_rfl) Sub.any (Qt.move rfl) ?_
  refine RW.q 11 rfl rfl (by kernel_rfl) Sub.any (Qt.add rfl rfl (wr64 (by omega) (by omega))) ?_
  refine RW.one 12 (by kernel_rfl) ?_
  refine RO.eS rfl rfl (Ef.call (Dk.readF B b D' (first + j) _ (by omega) (by omega) (by omega)) Tryz.func16 rfl rfl rfl ?_)
  rintro _ _ ⟨gy, cy, rfl, rfl⟩
  try simp only [List.cons_append, List.nil_append]
  rw [hdat]
  refine ⟨Sub.any, ?_⟩
  refine RW.q 13 rfl rfl (by kernel_rfl) Sub.any (Qt.move rfl) ?_
  refine RW.q 14 rfl rfl (by kernel_rfl) Sub.any (Qt.extract rfl rfl) ?_
  refine RW.q 15 rfl rfl (by kernel_rfl) Sub.any (Qt.extract rfl rfl) ?_
  refine RW.q 16 rfl rfl (by kernel_rfl) Sub.any (Qt.assign rfl) ?_
  refine RW.done (by rfl) ?_
  simp only [List.drop_succ_cons, List.drop_zero, List.drop_nil]
  refine LW.q rfl (Qt.assign rfl) ?_
  refine LW.done ?_
  refine T.region ?_
  refine LW.q rfl (Qt.move rfl) ?_
  refine LW.q rfl (Qt.move rfl) ?_
  refine LW.q rfl (Qt.move rfl) ?_
  refine LW.q rfl (Qt.build [(0, 1), (1, 1), (2, 1), (3, 1), (4, 1), (5, 1)] [.int .i64 0, .slice none 0 0, .int .i64 0, .int .i64 0, .bool false, .bool false] [_, _, _, _, _, _] [(0, _), (1, _)] (by kernel_rfl) (by unfold zeroB; kernel_rfl) rfl rfl) ?_
  refine LW.q rfl (Qt.nilCheck rfl) ?_
  refine LW.e0 rfl (Ef.store (fmC ⟨page, 0, 0, false, false, some ⟨gy, 0, none⟩, cy, dat⟩) (by kernel_rfl) rfl rfl (by simp only [fmC, hrl]; rfl) rfl (by simp) ?_)
  rw [fm_splice (Fs := [{ x with used := false }]) (i := 0) (by simp), List.set_cons_zero]
  have h2 : ([⟨page, 0, 0, false, false, some ⟨gy, 0, none⟩, cy, dat⟩] : List Fm)[0]? = some ⟨page, 0, 0, false, false, some ⟨gy, 0, none⟩, cy, dat⟩ := rfl
  refine LW.done ?_
  refine T.seq ?_
  refine T.region ?_
  refine LW.q rfl (Qt.move rfl) ?_
  refine LW.q rfl (Qt.nilCheck rfl) ?_
  refine LW.q rfl (Qt.fieldAddr (off := 3) (by kernel_rfl) rfl) ?_
  refine LW.q rfl (Qt.load (v := .int .i64 0) (by kernel_rfl) rfl (fm_at h2 3 (by omega))) ?_
  refine LW.q rfl (Qt.add rfl rfl (wr64 (by omega) (by omega))) ?_
  refine LW.q rfl (Qt.nilCheck rfl) ?_
  refine LW.q rfl (Qt.fieldAddr (off := 3) (by kernel_rfl) rfl) ?_
  refine LW.e0 rfl (Ef.store1 (by kernel_rfl) rfl rfl rfl (by simp) ?_)
  rw [fm_set (y := ⟨page, 0, 1, false, false, some ⟨gy, 0, none⟩, cy, dat⟩) h2 3 (by omega) (.int .i64 (0 + 1)) rfl, List.set_cons_zero]
  have h3 : ([⟨page, 0, 1, false, false, some ⟨gy, 0, none⟩, cy, dat⟩] : List Fm)[0]? = some ⟨page, 0, 1, false, false, some ⟨gy, 0, none⟩, cy, dat⟩ := rfl
  refine LW.done ?_
  refine T.seq ?_
  refine T.region ?_
  refine LW.q rfl (Qt.move rfl) ?_
  refine LW.q rfl (Qt.nilCheck rfl) ?_
  refine LW.q rfl (Qt.fieldAddr (off := 5) (by kernel_rfl) rfl) ?_
  refine LW.e0 rfl (Ef.store1 (by kernel_rfl) rfl rfl rfl (by simp) ?_)
  rw [fm_set (y := fmNew page (some ⟨gy, 0, none⟩) cy dat) h3 5 (by omega) _ rfl, List.set_cons_zero]
  refine LW.done ?_
  refine T.seq ?_
  refine T.region ?_
  refine LW.q rfl (Qt.assign rfl) ?_
  refine LW.done ?_
  refine T.ret ?_
  exact ⟨.inl rfl, _, _, res [_] rfl ⟨rvT rfl, trivial⟩, ⟨gy, cy, rfl, rfl⟩, Sub.any⟩

set_option maxHeartbeats 1000000 in
set_option maxRecDepth 100000 in
theorem Bf.full (B : Base) (x : UInt8) (i : Int) (hi : i = x.toNat) : Fn Tryz.prog B 14 #[.int .u8 i] [] (fun u l => ∃ g, u = .slice (some ⟨g, 0, none⟩) 256 256 ∧ l = [rB (.slice (some ⟨g, 0, none⟩) 256 256) 256 (List.replicate 256 x)]) := by
 subst hi
 refine Fn.enter1 17 Tryz.func14 rfl rfl (Nat.le_of_ble_eq_true rfl) (fun F => ?_)
 try simp only [List.cons_append, List.nil_append]
 refine T.seq ?_
 refine T.region ?_
 refine LW.q rfl (Qt.assign rfl) ?_
 refine LW.done ?_
 refine T.seq ?_
 refine T.region ?_
 refine LW.e rfl (Ef.make 256 (.int .u8 0) 1 Cd.elemB (by kernel_rfl) rfl rfl rfl rfl (by omega) (by unfold maxLen; omega) ?_)
 rintro g5
 try simp only [List.cons_append, List.nil_append]
 rw [made_bytes]
 refine LW.q rfl (Qt.assign rfl) ?_
 refine LW.done ?_
 refine T.seq ?_
 refine T.seq ?_
 refine T.region ?_
 refine LW.q rfl (Qt.move rfl) ?_
 refine LW.q rfl (Qt.len (e := 5) (sz := 1) (by kernel_rfl) rfl) ?_
 refine LW.q rfl (Qt.move rfl) ?_
 refine LW.done ?_
 refine T.block ?_
 refine T.loop (fun mz fz lz => ∃ (f0 : Fr) (k : Nat) (acc : List UInt8), (k ≤ 256 ∧ acc = List.replicate k x ++ List.replicate (256 - k) 0) ∧ mz = 256 - k ∧ fz = (upd (upd (upd (upd f0 0 (.int .u8 x.toNat)) 3 (.slice (some ⟨g5, 0, none⟩) 256 256)) 7 (.int .i64 256)) 8 (.int .i64 k)) ∧ lz = rB (.slice (some ⟨g5, 0, none⟩) 256 256) 256 acc :: F) ?_ ?_
 · refine ⟨_, _, ⟨_, 0, List.replicate 256 0, ⟨Nat.zero_le _, by simp⟩, rfl, (updS rfl (updS rfl (updS rfl (updS rfl rfl)))), rfl⟩, Sub.any⟩
 ·
  rintro mz fz lz ⟨f0, k, acc, ⟨hk, hacc⟩, hmz, rfl, rfl⟩
  subst mz
  try simp only [List.cons_append, List.nil_append]
  have hl : acc.length = 256 := by rw [hacc]; simp; omega
  refine T.seq ?_
  refine T.region ?_
  refine LW.q rfl (Qt.lss rfl rfl) ?_
  refine LW.done ?_
  refine T.seq ?_
  refine T.condP rfl (fun hlt => ?_) (fun hlt => ?_)
  ·
   refine T.skip ?_
   refine T.seq ?_
   refine T.block ?_
   refine T.seq ?_
   refine T.region ?_
   refine LW.q rfl (Qt.move rfl) ?_
   refine LW.q rfl (Qt.assign rfl) ?_
   refine LW.done ?_
   refine T.region ?_
   refine LW.q rfl (Qt.move rfl) ?_
   refine LW.q rfl (Qt.move rfl) ?_
   refine LW.q rfl (Qt.move rfl) ?_
   refine LW.q rfl (Qt.index _ (e := 5) (sz := 1) (by kernel_rfl) rfl rfl rfl (by omega)) ?_
   refine LW.e0 rfl (Ef.store1 (by kernel_rfl) rfl rfl rfl (by first | (simp; done) | (simp; omega)) ?_)
   try simp only [List.set_cons_zero, List.set_cons_succ]
   rw [bytes_set acc k x]
   refine LW.done ?_
   refine T.region ?_
   refine LW.q rfl (Qt.add rfl rfl (wr64 (by omega) (by omega))) ?_
   refine LW.q rfl (Qt.move rfl) ?_
   refine LW.done ?_
   refine ⟨_, ?_, _, ⟨_, k + 1, acc.set k x, ⟨by omega, by rw [hacc, List.set_append_right _ _ (by simp), List.length_replicate, Nat.sub_self, show 256 - k = (256 - (k + 1)) + 1 by omega, List.replicate_succ, List.set_cons_zero, List.replicate_succ' (n := k), List.append_assoc]; rfl⟩, rfl, (updS rfl (updS rfl (updS rfl (updS rfl rfl)))), rfl⟩, Sub.any⟩
   first | omega | (simp; omega)
  ·
   obtain rfl : k = 256 := by omega
   rw [show acc = List.replicate 256 x by rw [hacc]; simp]
   refine T.exit ?_
   refine T.seq ?_
   refine T.region ?_
   refine LW.q rfl (Qt.move rfl) ?_
   refine LW.q rfl (Qt.assign rfl) ?_
   refine LW.done ?_
   refine T.ret ?_
   exact ⟨.inl rfl, _, _, res [_] rfl ⟨rvT rfl, trivial⟩, ⟨g5, rfl, rfl⟩, Sub.any⟩

/-- What laid leaves. -/
def LaidR (n : Nat) (u : Value) (l : List Assn) : Prop := ∃ gb b gl g gf pl cl D, u = .pointer (some ⟨gb, 0, none⟩) ∧ D.Ok ∧ D.secs.length = 12 ∧ D.pend = [] ∧ (∀ x, 0 ≤ x → x < 12 → D.read x = List.replicate 256 0) ∧
  l = [blk gb [.pointer (some ⟨b, 0, none⟩), .pointer (some ⟨gl, 0, none⟩), .pointer (some ⟨g, 0, none⟩)] 55, poolB g b gf n 4 8 0 pl 1 cl, fmR gf n (List.replicate n fm1), lgR pl 1 cl [ifW gl], wlA gl b (mkW 0 4 [] 0), dskA b D]
set_option maxHeartbeats 2000000 in
set_option maxRecDepth 100000 in
theorem Bf.laid (B : Base) (n : Nat) (i : Int) (hi : i = n) (h1 : 1 ≤ n) (h2 : n ≤ 4096) : Fn Tryz.prog B 5 #[.int .i64 i] [] (LaidR n) := by
  subst hi
  refine Fn.enter1 44 Tryz.func5 rfl rfl (Nat.le_of_ble_eq_true rfl) (fun F => ?_)
  try simp only [List.cons_append, List.nil_append]
  refine T.seq ?_
  refine T.region ?_
  refine LW.q rfl (Qt.assign rfl) ?_
  refine LW.done ?_
  refine T.seq ?_
  refine T.region ?_
  refine LW.e rfl (Ef.call (Dk.newF B 12 12 rfl (by omega) (by omega)) Tryz.func19 rfl rfl rfl ?_)
  rintro _ _ ⟨b, rfl, rfl⟩
  try simp only [List.cons_append, List.nil_append]
  refine LW.q rfl (Qt.move rfl) ?_
  refine LW.q rfl (Qt.extract rfl rfl) ?_
  refine LW.q rfl (Qt.extract rfl rfl) ?_
  refine LW.q rfl (Qt.assign rfl) ?_
  refine LW.q rfl (Qt.assign rfl) ?_
  refine LW.done ?_
  refine T.seq ?_
  refine T.seq ?_
  refine T.region ?_
  refine LW.q rfl (Qt.move rfl) ?_
  first | refine LW.q rfl (Qt.eqlNil (by kernel_rfl) rfl rfl) ?_ | refine LW.q rfl (Qt.eqlNN (by kernel_rfl) rfl rfl) ?_
  refine LW.done ?_
  first | refine T.condF rfl ?_ | refine T.condPF rfl (by omega) ?_ | refine T.condBF rfl (by omega) ?_
  refine T.skip ?_
  refine T.seq ?_
  refine T.region ?_
  refine LW.q rfl (Qt.move rfl) ?_
  refine LW.e rfl (Ef.call (Wl.openText B b ⟨List.replicate 12 zs, []⟩ 0 4 [] 0 4 rfl rfl (by omega) (by simp) (by simp) (Secs.new (by omega)) (by simp) (by simp [logB])) Tryz.func20 rfl rfl rfl ?_)
  rintro _ _ ⟨gl, q, cq, R, D1, e1, e2, e3, e4, e5, e6, rfl, rfl⟩
  try simp only [List.cons_append, List.nil_append]
  rw [show (logB 0 0 []).length = 0 from rfl]
  have hl1 : D1.secs.length = 12 := by rw [e3]; rfl
  refine LW.q rfl (Qt.move rfl) ?_
  refine LW.q rfl (Qt.extract rfl rfl) ?_
  refine LW.q rfl (Qt.extract rfl rfl) ?_
  refine LW.q rfl (Qt.extract rfl rfl) ?_
  refine LW.q rfl (Qt.assign rfl) ?_
  refine LW.q rfl (Qt.assign rfl) ?_
  refine LW.q rfl (Qt.assign rfl) ?_
  refine LW.done ?_
  refine T.seq ?_
  refine T.seq ?_
  refine T.region ?_
  refine LW.q rfl (Qt.move rfl) ?_
  first | refine LW.q rfl (Qt.eqlNil (by kernel_rfl) rfl rfl) ?_ | refine LW.q rfl (Qt.eqlNN (by kernel_rfl) rfl rfl) ?_
  refine LW.done ?_
  first | refine T.condF rfl ?_ | refine T.condPF rfl (by omega) ?_ | refine T.condBF rfl (by omega) ?_
  refine T.skip ?_
  refine T.seq ?_
  refine T.region ?_
  refine LW.q rfl (Qt.move rfl) ?_
  refine LW.q rfl (Qt.move rfl) ?_
  refine LW.q rfl (Qt.move rfl) ?_
  refine LW.q rfl (Qt.iface (v := .pointer (some ⟨gl, 0, none⟩)) (by kernel_rfl) rfl) ?_
  refine LW.e rfl (Ef.one [_] (e := 128) (sz := 1) (by kernel_rfl) ⟨.nilIface, by kernel_rfl, rfl⟩ rfl rfl rfl (by omega) (by omega) ?_)
  intro g29
  refine LW.e rfl (Ef.call (Bf.new B [blk g29 [ifW gl] 128] b D1 4 8 n 4 8 n rfl rfl rfl (.slice (some ⟨g29, 0, none⟩) 1 1) [ifW gl] (by omega) (by omega) (by omega) h1 h2 ⟨_, 1, rfl, .inr ⟨g29, 0, rfl, fun w ho => ho.range (g := g29) (C := [ifW gl]) (fun j u hj => by rw [Nat.zero_add]; exact hj)⟩⟩ (by simp [Value.oneCell']) (by simp)) Tryz.func21 rfl rfl rfl ?_)
  rintro _ _ ⟨g, gf, pl, cl, rfl, rfl⟩
  try simp only [List.cons_append, List.nil_append]
  rw [show [ifW gl].length = 1 from rfl]
  refine LW.q rfl (Qt.move rfl) ?_
  refine LW.q rfl (Qt.extract rfl rfl) ?_
  refine LW.q rfl (Qt.extract rfl rfl) ?_
  refine LW.q rfl (Qt.assign rfl) ?_
  refine LW.q rfl (Qt.assign rfl) ?_
  refine LW.done ?_
  refine T.seq ?_
  refine T.seq ?_
  refine T.region ?_
  refine LW.q rfl (Qt.move rfl) ?_
  first | refine LW.q rfl (Qt.eqlNil (by kernel_rfl) rfl rfl) ?_ | refine LW.q rfl (Qt.eqlNN (by kernel_rfl) rfl rfl) ?_
  refine LW.q rfl (Qt.move rfl) ?_
  first | refine LW.gF (t := 35) rfl rfl ?_ | refine LW.gF (t := 35) rfl (decide_eq_false (by omega)) ?_ | refine LW.gF (t := 35) rfl (by omega) ?_
  refine LW.q rfl (Qt.move rfl) ?_
  refine LW.q rfl (Qt.neq rfl rfl) ?_
  refine LW.q rfl (Qt.pick rfl rfl) ?_
  refine LW.done ?_
  first | refine T.condF rfl ?_ | refine T.condPF rfl (by omega) ?_ | refine T.condBF rfl (by omega) ?_
  refine T.skip ?_
  refine T.seq ?_
  refine T.region ?_
  refine LW.q rfl (Qt.move rfl) ?_
  refine LW.q rfl (Qt.move rfl) ?_
  refine LW.q rfl (Qt.move rfl) ?_
  refine LW.q rfl (Qt.build [(0, 1), (1, 1), (2, 1)] [.pointer none, .pointer none, .pointer none] [_, _, _] [(0, _), (1, _), (2, _)] (by kernel_rfl) (by unfold zeroB; kernel_rfl) rfl rfl) ?_
  refine LW.e rfl (Ef.box [.pointer (some ⟨b, 0, none⟩), .pointer (some ⟨gl, 0, none⟩), .pointer (some ⟨g, 0, none⟩)] rfl rfl ?_)
  intro g43
  refine LW.q rfl (Qt.assign rfl) ?_
  refine LW.done ?_
  refine T.ret ?_
  exact ⟨.inl rfl, _, _, res [_] rfl ⟨rvT rfl, trivial⟩, ⟨_, b, gl, g, gf, pl, cl, D1, rfl, e2, hl1, e4, fun x _ h12 => by by_cases h4 : 4 ≤ x; (rw [e6 x (by simp; omega) (by omega)]; exact DD.new_read h12); (have := e5 x (by omega); rw [Nat.zero_add] at this; rw [this]; have h2 := (Secs.new (n := 12) (first := 0) (count := 4) (by omega)) x (by omega); rw [Nat.zero_add] at h2; exact h2.symm.trans (DD.new_read h12)), rfl⟩, Sub.any⟩

set_option maxHeartbeats 8000000 in
set_option maxRecDepth 100000 in
theorem Bf.awake (B : Base) : Fn Tryz.prog B 4 #[] [] (fun v l => v = .bool true ∧ l = []) := by
  refine Fn.enter0 98 Tryz.func4 rfl rfl (Nat.le_of_ble_eq_true rfl) (fun F => ?_)
  try simp only [List.cons_append, List.nil_append]
  refine T.seq ?_
  refine T.region ?_
  refine LW.q rfl (Qt.assign rfl) ?_
  refine LW.done ?_
  refine T.seq ?_
  refine T.region ?_
  refine LW.e rfl (Ef.call (Bf.laid B 1 1 rfl (by omega) (by omega)) Tryz.func5 rfl rfl rfl ?_)
  rintro _ _ ⟨gb, b, gl, g, gf, pl, cl, D, rfl, ho, hl, hp, hz, rfl⟩
  try simp only [List.cons_append, List.nil_append]
  rw [show List.replicate 1 fm1 = [fm1] from rfl]
  refine LW.q rfl (Qt.assign rfl) ?_
  refine LW.done ?_
  refine T.seq ?_
  refine T.seq ?_
  have r6 : D.read (4 + 2) = List.replicate 256 0 := hz 6 (by omega) (by omega)
  have r7 : D.read (4 + 3) = List.replicate 256 0 := hz 7 (by omega) (by omega)
  have hW : (mkW 0 4 [] 0).dur = 0 := rfl
  refine T.draw 35 ([blk gb [.pointer (some ⟨b, 0, none⟩), .pointer (some ⟨gl, 0, none⟩), .pointer (some ⟨g, 0, none⟩)] 55]) (by kernel_rfl) (Nat.le_of_ble_eq_true rfl) (by kernel_rfl) ?_
  refine RW.q 0 rfl rfl (by kernel_rfl) Sub.any (Qt.move rfl) ?_
  first | refine RW.q 1 rfl rfl (by kernel_rfl) Sub.any (Qt.eqlNil (by kernel_rfl) rfl rfl) ?_ | refine RW.q 1 rfl rfl (by kernel_rfl) Sub.any (Qt.eqlNN (by kernel_rfl) rfl rfl) ?_
  refine RW.q 2 rfl rfl (by kernel_rfl) Sub.any (Qt.move rfl) ?_
  first | refine RW.gF (t := 7) rfl rfl ?_ | refine RW.gF (t := 7) rfl (decide_eq_false (by omega)) ?_ | refine RW.gF (t := 7) rfl (by omega) ?_
  refine RW.q 3 rfl rfl (by kernel_rfl) Sub.any (Qt.move rfl) ?_
  refine RW.q 4 rfl rfl (by kernel_rfl) Sub.any (Qt.nilCheck rfl) ?_
  refine RW.q 5 rfl rfl (by kernel_rfl) Sub.any (Qt.fieldAddr (off := 2) (by kernel_rfl) rfl) ?_
  first | refine RW.q 6 rfl rfl (by kernel_rfl) Sub.any (Qt.load (by kernel_rfl) rfl rfl) ?_ | refine RW.q 6 rfl rfl (by kernel_rfl) Sub.any (Qt.load (by kernel_rfl) rfl (map_at _ _ _ (by omega))) ?_ | refine RW.q 6 rfl rfl (by kernel_rfl) Sub.any (Qt.load (by kernel_rfl) rfl (flat_cell0 _ _ _ (by intros; rfl) _ (by omega) (by rfl))) ?_ | refine RW.q 6 rfl rfl (by kernel_rfl) Sub.any (Qt.load (by kernel_rfl) rfl (flat_cell _ _ _ (by intros; rfl) _ _ (by omega) (by rfl))) ?_ | refine RW.q 6 rfl rfl (by kernel_rfl) Sub.any (Qt.load (by kernel_rfl) rfl (bytes_at _ _ (by omega))) ?_
  refine RW.one 7 (by kernel_rfl) ?_
  refine RO.eS rfl rfl (Ef.call (Bf.pin_free B g b gf 1 4 8 0 pl 1 cl [fm1] D 2 2 rfl (by omega) rfl (by omega) (fun k y hk => by rw [one_at hk]; decide) 0 fm1 rfl (by decide) (fun k hk => by omega) (by omega) (by omega) (by rw [hp]; simp) (by rw [r6]; simp)) Tryz.func12 rfl rfl rfl ?_)
  rintro _ _ ⟨gx, cx, rfl, rfl⟩
  try simp only [List.cons_append, List.nil_append]
  rw [r6, List.set_cons_zero]
  refine ⟨Sub.any, ?_⟩
  refine RW.q 8 rfl rfl (by kernel_rfl) Sub.any (Qt.neq rfl rfl) ?_
  refine RW.q 9 rfl rfl (by kernel_rfl) Sub.any (Qt.pick rfl rfl) ?_
  refine RW.q 10 rfl rfl (by kernel_rfl) Sub.any (Qt.move rfl) ?_
  first | refine RW.gF (t := 15) rfl rfl ?_ | refine RW.gF (t := 15) rfl (decide_eq_false (by omega)) ?_ | refine RW.gF (t := 15) rfl (by omega) ?_
  refine RW.q 11 rfl rfl (by kernel_rfl) Sub.any (Qt.move rfl) ?_
  refine RW.q 12 rfl rfl (by kernel_rfl) Sub.any (Qt.nilCheck rfl) ?_
  refine RW.q 13 rfl rfl (by kernel_rfl) Sub.any (Qt.fieldAddr (off := 2) (by kernel_rfl) rfl) ?_
  first | refine RW.q 14 rfl rfl (by kernel_rfl) Sub.any (Qt.load (by kernel_rfl) rfl rfl) ?_ | refine RW.q 14 rfl rfl (by kernel_rfl) Sub.any (Qt.load (by kernel_rfl) rfl (map_at _ _ _ (by omega))) ?_ | refine RW.q 14 rfl rfl (by kernel_rfl) Sub.any (Qt.load (by kernel_rfl) rfl (flat_cell0 _ _ _ (by intros; rfl) _ (by omega) (by rfl))) ?_ | refine RW.q 14 rfl rfl (by kernel_rfl) Sub.any (Qt.load (by kernel_rfl) rfl (flat_cell _ _ _ (by intros; rfl) _ _ (by omega) (by rfl))) ?_ | refine RW.q 14 rfl rfl (by kernel_rfl) Sub.any (Qt.load (by kernel_rfl) rfl (bytes_at _ _ (by omega))) ?_
  refine RW.one 15 (by kernel_rfl) ?_
  refine RO.eS rfl rfl (Ef.call (Bf.full B 7 7 rfl) Tryz.func14 rfl rfl rfl ?_)
  rintro _ _ ⟨g7, rfl, rfl⟩
  try simp only [List.cons_append, List.nil_append]
  refine ⟨Sub.any, ?_⟩
  refine RW.one 16 (by kernel_rfl) ?_
  refine RO.eS rfl rfl (Ef.call (Bf.put B [rB (.slice (some ⟨g7, 0, none⟩) 256 256) 256 (List.replicate 256 7)] g b gf 1 4 8 0 pl 1 cl [fmNew 2 (some ⟨gx, 0, none⟩) cx (List.replicate 256 0)] 2 0 (fmNew 2 (some ⟨gx, 0, none⟩) cx (List.replicate 256 0)) rfl (by omega) ⟨rfl, rfl, by omega, fun j hj => by omega⟩ (by show (0 : Int) < 1; omega) (some ⟨g7, 0, none⟩) 256 (List.replicate 256 7) 0 (by simp) (RdV.rB (by simp) (fun _ => ⟨_, rfl⟩))) Tryz.func13 rfl rfl rfl ?_)
  rintro _ _ ⟨p5, c5, rfl, ⟨g5, rfl⟩, rfl⟩
  try simp only [List.cons_append, List.nil_append]
  rw [List.set_cons_zero]
  refine ⟨Sub.any, ?_⟩
  refine RW.q 17 rfl rfl (by kernel_rfl) Sub.any (Qt.neq rfl rfl) ?_
  refine RW.q 18 rfl rfl (by kernel_rfl) Sub.any (Qt.pick rfl rfl) ?_
  refine RW.q 19 rfl rfl (by kernel_rfl) Sub.any (Qt.move rfl) ?_
  first | refine RW.gF (t := 24) rfl rfl ?_ | refine RW.gF (t := 24) rfl (decide_eq_false (by omega)) ?_ | refine RW.gF (t := 24) rfl (by omega) ?_
  refine RW.q 20 rfl rfl (by kernel_rfl) Sub.any (Qt.move rfl) ?_
  refine RW.q 21 rfl rfl (by kernel_rfl) Sub.any (Qt.nilCheck rfl) ?_
  refine RW.q 22 rfl rfl (by kernel_rfl) Sub.any (Qt.fieldAddr (off := 2) (by kernel_rfl) rfl) ?_
  first | refine RW.q 23 rfl rfl (by kernel_rfl) Sub.any (Qt.load (by kernel_rfl) rfl rfl) ?_ | refine RW.q 23 rfl rfl (by kernel_rfl) Sub.any (Qt.load (by kernel_rfl) rfl (map_at _ _ _ (by omega))) ?_ | refine RW.q 23 rfl rfl (by kernel_rfl) Sub.any (Qt.load (by kernel_rfl) rfl (flat_cell0 _ _ _ (by intros; rfl) _ (by omega) (by rfl))) ?_ | refine RW.q 23 rfl rfl (by kernel_rfl) Sub.any (Qt.load (by kernel_rfl) rfl (flat_cell _ _ _ (by intros; rfl) _ _ (by omega) (by rfl))) ?_ | refine RW.q 23 rfl rfl (by kernel_rfl) Sub.any (Qt.load (by kernel_rfl) rfl (bytes_at _ _ (by omega))) ?_
  refine RW.one 24 (by kernel_rfl) ?_
  refine RO.eS rfl rfl (Ef.call (Bf.unpin B g b gf 1 4 8 0 pl 1 cl [⟨2, max 0 0, 1, true, true, some ⟨g5, 0, none⟩, c5, List.replicate 256 7⟩] 2 0 ⟨2, max 0 0, 1, true, true, some ⟨g5, 0, none⟩, c5, List.replicate 256 7⟩ rfl (by omega) ⟨rfl, rfl, by omega, fun j hj => by omega⟩ (by show (0 : Int) < 1; omega) (by show (1 : Int) < _; omega)) Tryz.func15 rfl rfl rfl ?_)
  rintro _ _ ⟨rfl, rfl⟩
  try simp only [List.cons_append, List.nil_append]
  rw [List.set_cons_zero]
  refine ⟨Sub.any, ?_⟩
  refine RW.q 25 rfl rfl (by kernel_rfl) Sub.any (Qt.neq rfl rfl) ?_
  refine RW.q 26 rfl rfl (by kernel_rfl) Sub.any (Qt.pick rfl rfl) ?_
  refine RW.q 27 rfl rfl (by kernel_rfl) Sub.any (Qt.move rfl) ?_
  first | refine RW.gF (t := 32) rfl rfl ?_ | refine RW.gF (t := 32) rfl (decide_eq_false (by omega)) ?_ | refine RW.gF (t := 32) rfl (by omega) ?_
  refine RW.q 28 rfl rfl (by kernel_rfl) Sub.any (Qt.move rfl) ?_
  refine RW.q 29 rfl rfl (by kernel_rfl) Sub.any (Qt.nilCheck rfl) ?_
  refine RW.q 30 rfl rfl (by kernel_rfl) Sub.any (Qt.fieldAddr (off := 2) (by kernel_rfl) rfl) ?_
  first | refine RW.q 31 rfl rfl (by kernel_rfl) Sub.any (Qt.load (by kernel_rfl) rfl rfl) ?_ | refine RW.q 31 rfl rfl (by kernel_rfl) Sub.any (Qt.load (by kernel_rfl) rfl (map_at _ _ _ (by omega))) ?_ | refine RW.q 31 rfl rfl (by kernel_rfl) Sub.any (Qt.load (by kernel_rfl) rfl (flat_cell0 _ _ _ (by intros; rfl) _ (by omega) (by rfl))) ?_ | refine RW.q 31 rfl rfl (by kernel_rfl) Sub.any (Qt.load (by kernel_rfl) rfl (flat_cell _ _ _ (by intros; rfl) _ _ (by omega) (by rfl))) ?_ | refine RW.q 31 rfl rfl (by kernel_rfl) Sub.any (Qt.load (by kernel_rfl) rfl (bytes_at _ _ (by omega))) ?_
  refine RW.one 32 (by kernel_rfl) ?_
  refine RO.eS rfl rfl (Ef.call (Bf.pin_one B g b gf 4 8 pl cl ⟨2, max 0 0, 1 - 1, true, true, some ⟨g5, 0, none⟩, c5, List.replicate 256 7⟩ gl (mkW 0 4 [] 0) D (D.write (4 + 2) (List.replicate 256 7)) 2 rfl rfl rfl rfl (by simp) g5 c5 (List.replicate 256 7) rfl rfl rfl (by rw [hW]; omega) (by show max (0 : Int) 0 ≤ ((mkW 0 4 [] 0).dur : Int); rw [hW]; omega) (by omega) 3 3 rfl (by omega) (by omega) (by omega) (by omega) (by rw [hp]; simp) rfl (List.replicate 256 0) (by rw [DD.rdW, if_neg (by omega)]; exact r7) (by simp)) Tryz.func12 rfl rfl rfl ?_)
  rintro _ _ ⟨gy, cy, rfl, rfl⟩
  try simp only [List.cons_append, List.nil_append]
  refine ⟨Sub.any, ?_⟩
  refine RW.q 33 rfl rfl (by kernel_rfl) Sub.any (Qt.neq rfl rfl) ?_
  refine RW.q 34 rfl rfl (by kernel_rfl) Sub.any (Qt.pick rfl rfl) ?_
  refine RW.done (by rfl) ?_
  simp only [List.drop_succ_cons, List.drop_zero, List.drop_nil]
  refine LW.done ?_
  first | refine T.condF rfl ?_ | refine T.condPF rfl (by omega) ?_ | refine T.condBF rfl (by omega) ?_
  refine T.skip ?_
  refine T.seq ?_
  refine T.region ?_
  refine LW.q rfl (Qt.move rfl) ?_
  refine LW.q rfl (Qt.nilCheck rfl) ?_
  refine LW.q rfl (Qt.fieldAddr0 (by kernel_rfl) rfl) ?_
  first | refine LW.q rfl (Qt.load (by kernel_rfl) rfl rfl) ?_ | refine LW.q rfl (Qt.load (by kernel_rfl) rfl (map_at _ _ _ (by omega))) ?_ | refine LW.q rfl (Qt.load (by kernel_rfl) rfl (flat_cell0 _ _ _ (by intros; rfl) _ (by omega) (by rfl))) ?_ | refine LW.q rfl (Qt.load (by kernel_rfl) rfl (flat_cell _ _ _ (by intros; rfl) _ _ (by omega) (by rfl))) ?_ | refine LW.q rfl (Qt.load (by kernel_rfl) rfl (bytes_at _ _ (by omega))) ?_
  refine LW.e rfl (Ef.call (Dk.readF B b (D.write (4 + 2) (List.replicate 256 7)) 6 6 rfl (by show 6 < D.secs.length; omega) (by simp [DD.write, hp])) Tryz.func16 rfl rfl rfl ?_)
  rintro _ _ ⟨gr, cr, rfl, rfl⟩
  try simp only [List.cons_append, List.nil_append]
  rw [DD.rdW, if_pos rfl]
  refine LW.q rfl (Qt.move rfl) ?_
  refine LW.q rfl (Qt.extract rfl rfl) ?_
  refine LW.q rfl (Qt.extract rfl rfl) ?_
  refine LW.q rfl (Qt.assign rfl) ?_
  refine LW.q rfl (Qt.assign rfl) ?_
  refine LW.done ?_
  refine T.seq ?_
  refine T.region ?_
  refine LW.q rfl (Qt.move rfl) ?_
  refine LW.q rfl (Qt.eql rfl rfl) ?_
  refine LW.q rfl (Qt.move rfl) ?_
  first | refine LW.gT (t := 50) rfl rfl ?_ | refine LW.gT (t := 50) rfl (decide_eq_true (by omega)) ?_ | refine LW.gT (t := 50) rfl (by omega) ?_
  refine LW.q rfl (Qt.move rfl) ?_
  refine LW.q rfl (Qt.len (e := 5) (sz := 1) (by kernel_rfl) rfl) ?_
  refine LW.q rfl (Qt.eql rfl rfl) ?_
  refine LW.q rfl (Qt.pick rfl rfl) ?_
  refine LW.q rfl (Qt.move rfl) ?_
  first | refine LW.gT (t := 55) rfl rfl ?_ | refine LW.gT (t := 55) rfl (decide_eq_true (by omega)) ?_ | refine LW.gT (t := 55) rfl (by omega) ?_
  refine LW.q rfl (Qt.move rfl) ?_
  refine LW.q rfl (Qt.index 5 (e := 5) (sz := 1) (by kernel_rfl) rfl rfl rfl (by omega)) ?_
  refine LW.q rfl (Qt.load (v := .int .u8 (7 : UInt8).toNat) (by kernel_rfl) rfl (bytes_get (l := List.replicate 256 7) (j := 5) (by simp))) ?_
  refine LW.q rfl (Qt.eql rfl rfl) ?_
  refine LW.q rfl (Qt.pick rfl rfl) ?_
  refine LW.q rfl (Qt.move rfl) ?_
  first | refine LW.gT (t := 61) rfl rfl ?_ | refine LW.gT (t := 61) rfl (decide_eq_true (by omega)) ?_ | refine LW.gT (t := 61) rfl (by omega) ?_
  refine LW.q rfl (Qt.move rfl) ?_
  refine LW.q rfl (Qt.nilCheck rfl) ?_
  refine LW.q rfl (Qt.fieldAddr (off := 2) (by kernel_rfl) rfl) ?_
  first | refine LW.q rfl (Qt.load (by kernel_rfl) rfl rfl) ?_ | refine LW.q rfl (Qt.load (by kernel_rfl) rfl (map_at _ _ _ (by omega))) ?_ | refine LW.q rfl (Qt.load (by kernel_rfl) rfl (flat_cell0 _ _ _ (by intros; rfl) _ (by omega) (by rfl))) ?_ | refine LW.q rfl (Qt.load (by kernel_rfl) rfl (flat_cell _ _ _ (by intros; rfl) _ _ (by omega) (by rfl))) ?_ | refine LW.q rfl (Qt.load (by kernel_rfl) rfl (bytes_at _ _ (by omega))) ?_
  refine LW.e rfl (Ef.call (Bf.frames B g b gf 1 4 8 0 pl 1 cl [fmNew 3 (some ⟨gy, 0, none⟩) cy (List.replicate 256 0)] rfl (by omega)) Tryz.func17 rfl rfl rfl ?_)
  rintro _ _ ⟨p8, c8, rfl, rfl⟩
  try simp only [List.cons_append, List.nil_append]
  refine LW.q rfl (Qt.len (e := 3) (sz := 1) (by kernel_rfl) rfl) ?_
  refine LW.q rfl (Qt.eql rfl rfl) ?_
  refine LW.q rfl (Qt.pick rfl rfl) ?_
  refine LW.q rfl (Qt.move rfl) ?_
  first | refine LW.gT (t := 70) rfl rfl ?_ | refine LW.gT (t := 70) rfl (decide_eq_true (by omega)) ?_ | refine LW.gT (t := 70) rfl (by omega) ?_
  refine LW.q rfl (Qt.move rfl) ?_
  refine LW.q rfl (Qt.nilCheck rfl) ?_
  refine LW.q rfl (Qt.fieldAddr (off := 2) (by kernel_rfl) rfl) ?_
  first | refine LW.q rfl (Qt.load (by kernel_rfl) rfl rfl) ?_ | refine LW.q rfl (Qt.load (by kernel_rfl) rfl (map_at _ _ _ (by omega))) ?_ | refine LW.q rfl (Qt.load (by kernel_rfl) rfl (flat_cell0 _ _ _ (by intros; rfl) _ (by omega) (by rfl))) ?_ | refine LW.q rfl (Qt.load (by kernel_rfl) rfl (flat_cell _ _ _ (by intros; rfl) _ _ (by omega) (by rfl))) ?_ | refine LW.q rfl (Qt.load (by kernel_rfl) rfl (bytes_at _ _ (by omega))) ?_
  refine LW.e rfl (Ef.call (Bf.frames B g b gf 1 4 8 0 pl 1 cl [fmNew 3 (some ⟨gy, 0, none⟩) cy (List.replicate 256 0)] rfl (by omega)) Tryz.func17 rfl rfl rfl ?_)
  rintro _ _ ⟨p9, c9, rfl, rfl⟩
  try simp only [List.cons_append, List.nil_append]
  refine LW.own (fun w ho => ?_)
  obtain ⟨g9, rfl⟩ : ∃ g9, p9 = some ⟨g9, 0, none⟩ := (ho.slice_at (p := p9) (m := 1) (c := c9)).2.1 (by omega)
  clear ho
  refine LW.q rfl (Qt.index 0 (e := 3) (sz := 1) (by kernel_rfl) rfl rfl rfl (by omega)) ?_
  first | refine LW.q rfl (Qt.load (by kernel_rfl) rfl rfl) ?_ | refine LW.q rfl (Qt.load (by kernel_rfl) rfl (map_at _ _ _ (by omega))) ?_ | refine LW.q rfl (Qt.load (by kernel_rfl) rfl (flat_cell0 _ _ _ (by intros; rfl) _ (by omega) (by rfl))) ?_ | refine LW.q rfl (Qt.load (by kernel_rfl) rfl (flat_cell _ _ _ (by intros; rfl) _ _ (by omega) (by rfl))) ?_ | refine LW.q rfl (Qt.load (by kernel_rfl) rfl (bytes_at _ _ (by omega))) ?_
  refine LW.q rfl (Qt.eql rfl rfl) ?_
  refine LW.q rfl (Qt.pick rfl rfl) ?_
  refine LW.q rfl (Qt.move rfl) ?_
  first | refine LW.gT (t := 80) rfl rfl ?_ | refine LW.gT (t := 80) rfl (decide_eq_true (by omega)) ?_ | refine LW.gT (t := 80) rfl (by omega) ?_
  refine LW.q rfl (Qt.move rfl) ?_
  refine LW.q rfl (Qt.nilCheck rfl) ?_
  refine LW.q rfl (Qt.fieldAddr (off := 2) (by kernel_rfl) rfl) ?_
  first | refine LW.q rfl (Qt.load (by kernel_rfl) rfl rfl) ?_ | refine LW.q rfl (Qt.load (by kernel_rfl) rfl (map_at _ _ _ (by omega))) ?_ | refine LW.q rfl (Qt.load (by kernel_rfl) rfl (flat_cell0 _ _ _ (by intros; rfl) _ (by omega) (by rfl))) ?_ | refine LW.q rfl (Qt.load (by kernel_rfl) rfl (flat_cell _ _ _ (by intros; rfl) _ _ (by omega) (by rfl))) ?_ | refine LW.q rfl (Qt.load (by kernel_rfl) rfl (bytes_at _ _ (by omega))) ?_
  refine LW.e rfl (Ef.call (Bf.pin_full B g b gf 1 4 8 0 pl 1 cl [fmNew 3 (some ⟨gy, 0, none⟩) cy (List.replicate 256 0)] 2 (by omega) (by omega) rfl (by omega) (fun k y hk => by rw [one_at hk]; show (3 : Int) ≠ 2; decide) (fun k y hk => by rw [one_at hk]; exact ⟨show (0 : Int) ≤ 3 by omega, show (0 : Int) < 1 by omega⟩)) Tryz.func12 rfl rfl rfl ?_)
  rintro _ _ ⟨rfl, rfl⟩
  try simp only [List.cons_append, List.nil_append]
  refine LW.q rfl (Qt.eql rfl rfl) ?_
  refine LW.q rfl (Qt.pick rfl rfl) ?_
  refine LW.q rfl (Qt.move rfl) ?_
  first | refine LW.gT (t := 88) rfl rfl ?_ | refine LW.gT (t := 88) rfl (decide_eq_true (by omega)) ?_ | refine LW.gT (t := 88) rfl (by omega) ?_
  refine LW.q rfl (Qt.move rfl) ?_
  refine LW.q rfl (Qt.nilCheck rfl) ?_
  refine LW.q rfl (Qt.fieldAddr (off := 2) (by kernel_rfl) rfl) ?_
  first | refine LW.q rfl (Qt.load (by kernel_rfl) rfl rfl) ?_ | refine LW.q rfl (Qt.load (by kernel_rfl) rfl (map_at _ _ _ (by omega))) ?_ | refine LW.q rfl (Qt.load (by kernel_rfl) rfl (flat_cell0 _ _ _ (by intros; rfl) _ (by omega) (by rfl))) ?_ | refine LW.q rfl (Qt.load (by kernel_rfl) rfl (flat_cell _ _ _ (by intros; rfl) _ _ (by omega) (by rfl))) ?_ | refine LW.q rfl (Qt.load (by kernel_rfl) rfl (bytes_at _ _ (by omega))) ?_
  refine LW.q rfl (Qt.nilCheck rfl) ?_
  refine LW.q rfl (Qt.fieldAddr0 (by kernel_rfl) rfl) ?_
  refine LW.e rfl (Ef.call (Bf.pages B g b gf 1 4 8 0 pl 1 cl) Tryz.func18 rfl rfl rfl ?_)
  rintro _ _ ⟨rfl, rfl⟩
  try simp only [List.cons_append, List.nil_append]
  refine LW.q rfl (Qt.eql rfl rfl) ?_
  refine LW.q rfl (Qt.pick rfl rfl) ?_
  refine LW.q rfl (Qt.assign rfl) ?_
  refine LW.done ?_
  refine T.ret ?_
  exact ⟨.inl rfl, _, _, res [_] rfl ⟨rvT rfl, trivial⟩, ⟨rfl, rfl⟩, Sub.any⟩
end Go.Proofs.YtegohgaccmkigaaGreatDoor

/- The package buffer: Unpin, Bytes, Put over a pool as a whole; a new pool; the statements' laid. Conditions: sizes; the frames are in order. -/
set_option linter.unusedSimpArgs false
set_option linter.unusedVariables false
namespace Go.Proofs.YtegohgaccmkigaaGreatDoor
open Go.RowKit

theorem pinnedA_some {A : List Fa} {page : Int} {i : Nat} {x : Fa} (h : pinnedA A page = some (i, x)) : findA A page = some i ∧ A[i]? = some x ∧ 0 < x.pins := by
  unfold pinnedA at h
  split at h
  · cases h
  · rename_i j hj
    split at h
    · cases h
    · rename_i y hy
      split at h
      · simp only [Option.some.injEq, Prod.mk.injEq] at h
        obtain ⟨rfl, rfl⟩ := h
        exact ⟨hj, hy, by assumption⟩
      · cases h
theorem pinnedA_none {A : List Fa} {page : Int} (h : pinnedA A page = none) : findA A page = none ∨ ∃ i x, findA A page = some i ∧ A[i]? = some x ∧ ¬ 0 < x.pins := by
  unfold pinnedA at h
  split at h
  · rename_i hj; exact .inl hj
  · rename_i j hj
    obtain ⟨_, x, hx, _⟩ := findA_some hj
    rw [hx] at h
    dsimp only at h
    split at h
    · cases h
    · rename_i hp; exact .inr ⟨j, x, hj, hx, hp⟩

set_option maxHeartbeats 1000000 in
set_option maxRecDepth 100000 in
theorem Bf.pinned_low (B : Base) (g b gf n first count hand : Nat) (pl : Option Addr) (nl cl : Nat) (Fs : List Fm) (page : Int) (i : Nat) (x : Fm) (hn : Fs.length = n) (hn2 : n ≤ 4096) (hx : Fd Fs page i x) (hpin : ¬ 0 < x.pins) :
    Fn Tryz.prog B 41 #[.pointer (some ⟨g, 0, none⟩), .int .i64 page] [poolB g b gf n first count hand pl nl cl, fmR gf n Fs] (fun u l => u = .pointer none ∧ l = [poolB g b gf n first count hand pl nl cl, fmR gf n Fs]) := by
  refine Fn.enter2 19 Tryz.func41 rfl rfl (Nat.le_of_ble_eq_true rfl) (fun F => ?_)
  try simp only [List.cons_append, List.nil_append]
  refine T.seq ?_
  refine T.region ?_
  refine LW.q rfl (Qt.assign rfl) ?_
  refine LW.done ?_
  refine T.seq ?_
  refine T.seq ?_
  refine T.region ?_
  refine LW.q rfl (Qt.move rfl) ?_
  refine LW.q rfl (Qt.move rfl) ?_
  refine LW.e rfl (Ef.call (Bf.find_some B g b gf n first count hand pl nl cl Fs page i x hn hn2 hx.at_ hx.pg hx.pos hx.first) Tryz.func39 rfl rfl rfl ?_)
  rintro _ _ ⟨rfl, rfl⟩
  try simp only [List.cons_append, List.nil_append]
  refine LW.q rfl (Qt.assign rfl) ?_
  refine LW.done ?_
  refine T.seq ?_
  refine T.region ?_
  refine LW.q rfl (Qt.move rfl) ?_
  first | refine LW.q rfl (Qt.neqNil (by kernel_rfl) rfl rfl) ?_ | refine LW.q rfl (Qt.neqNN (by kernel_rfl) rfl rfl) ?_
  refine LW.q rfl (Qt.move rfl) ?_
  first | refine LW.gT (t := 11) rfl rfl ?_ | refine LW.gT (t := 11) rfl (decide_eq_true (by omega)) ?_ | refine LW.gT (t := 11) rfl (by omega) ?_
  refine LW.q rfl (Qt.move rfl) ?_
  refine LW.q rfl (Qt.nilCheck rfl) ?_
  refine LW.q rfl (Qt.fieldAddr (off := 3) (by kernel_rfl) rfl) ?_
  refine LW.q rfl (Qt.load (v := .int .i64 x.pins) (by kernel_rfl) rfl (fm_at hx.at_ 3 (by omega))) ?_
  refine LW.q rfl (Qt.gtr rfl rfl) ?_
  refine LW.q rfl (Qt.pick rfl rfl) ?_
  refine LW.done ?_
  first | refine T.condF rfl ?_ | refine T.condPF rfl (by omega) ?_ | refine T.condBF rfl (by omega) ?_
  refine T.skip ?_
  refine T.seq ?_
  refine T.region ?_
  refine LW.q rfl (Qt.assign rfl) ?_
  refine LW.done ?_
  refine T.ret ?_
  exact ⟨.inl rfl, _, _, res [_] rfl ⟨rvT rfl, trivial⟩, ⟨rfl, rfl⟩, Sub.any⟩
set_option maxHeartbeats 1000000 in
set_option maxRecDepth 100000 in
theorem Bf.pinned_miss (B : Base) (g b gf n first count hand : Nat) (pl : Option Addr) (nl cl : Nat) (Fs : List Fm) (page : Int) (hn : Fs.length = n) (hn2 : n ≤ 4096) (hno : ∀ (j : Nat) (y : Fm), Fs[j]? = some y → y.page = page → page < 0) :
    Fn Tryz.prog B 41 #[.pointer (some ⟨g, 0, none⟩), .int .i64 page] [poolB g b gf n first count hand pl nl cl, fmR gf n Fs] (fun u l => u = .pointer none ∧ l = [poolB g b gf n first count hand pl nl cl, fmR gf n Fs]) := by
  refine Fn.enter2 19 Tryz.func41 rfl rfl (Nat.le_of_ble_eq_true rfl) (fun F => ?_)
  try simp only [List.cons_append, List.nil_append]
  refine T.seq ?_
  refine T.region ?_
  refine LW.q rfl (Qt.assign rfl) ?_
  refine LW.done ?_
  refine T.seq ?_
  refine T.seq ?_
  refine T.region ?_
  refine LW.q rfl (Qt.move rfl) ?_
  refine LW.q rfl (Qt.move rfl) ?_
  refine LW.e rfl (Ef.call (Bf.find_none B g b gf n first count hand pl nl cl Fs page hn hn2 hno) Tryz.func39 rfl rfl rfl ?_)
  rintro _ _ ⟨rfl, rfl⟩
  try simp only [List.cons_append, List.nil_append]
  refine LW.q rfl (Qt.assign rfl) ?_
  refine LW.done ?_
  refine T.seq ?_
  refine T.region ?_
  refine LW.q rfl (Qt.move rfl) ?_
  first | refine LW.q rfl (Qt.neqNil (by kernel_rfl) rfl rfl) ?_ | refine LW.q rfl (Qt.neqNN (by kernel_rfl) rfl rfl) ?_
  refine LW.q rfl (Qt.move rfl) ?_
  first | refine LW.gF (t := 11) rfl rfl ?_ | refine LW.gF (t := 11) rfl (decide_eq_false (by omega)) ?_ | refine LW.gF (t := 11) rfl (by omega) ?_
  refine LW.s rfl ?_
  refine LW.s rfl ?_
  refine LW.s rfl ?_
  refine LW.s rfl ?_
  refine LW.s rfl ?_
  refine LW.q rfl (Qt.pick rfl rfl) ?_
  refine LW.done ?_
  first | refine T.condF rfl ?_ | refine T.condPF rfl (by omega) ?_ | refine T.condBF rfl (by omega) ?_
  refine T.skip ?_
  refine T.seq ?_
  refine T.region ?_
  refine LW.q rfl (Qt.assign rfl) ?_
  refine LW.done ?_
  refine T.ret ?_
  exact ⟨.inl rfl, _, _, res [_] rfl ⟨rvT rfl, trivial⟩, ⟨rfl, rfl⟩, Sub.any⟩
theorem Bf.pinned_no (B : Base) (g b gf n first count hand : Nat) (pl : Option Addr) (nl cl : Nat) (Fs : List Fm) (page : Int) (hn : Fs.length = n) (hn2 : n ≤ 4096) (h : pinnedA (Fs.map Fm.a) page = none) :
    Fn Tryz.prog B 41 #[.pointer (some ⟨g, 0, none⟩), .int .i64 page] [poolB g b gf n first count hand pl nl cl, fmR gf n Fs] (fun u l => u = .pointer none ∧ l = [poolB g b gf n first count hand pl nl cl, fmR gf n Fs]) := by
  rcases pinnedA_none h with h | ⟨i, x, h1, h2, h3⟩
  · refine Bf.pinned_miss B g b gf n first count hand pl nl cl Fs page hn hn2 fun j y hy e => ?_
    by_cases h0 : 0 ≤ page
    · exact absurd e (nofd_of rfl h h0 j y hy)
    · omega
  · obtain ⟨z, hz⟩ := fd_of rfl h1
    refine Bf.pinned_low B g b gf n first count hand pl nl cl Fs page i z hn hn2 hz ?_
    have := map_a_at rfl hz.at_
    rw [h2] at this
    cases this
    exact h3
set_option maxRecDepth 100000 in
theorem Bf.unpin_no (B : Base) (g b gf n first count hand : Nat) (pl : Option Addr) (nl cl : Nat) (Fs : List Fm) (page : Int) (hn : Fs.length = n) (hn2 : n ≤ 4096) (h : pinnedA (Fs.map Fm.a) page = none) :
    Fn Tryz.prog B 15 #[.pointer (some ⟨g, 0, none⟩), .int .i64 page] [poolB g b gf n first count hand pl nl cl, fmR gf n Fs] (fun u l => u = .int .i64 61 ∧ l = [poolB g b gf n first count hand pl nl cl, fmR gf n Fs]) := by
  refine Fn.enter2 18 Tryz.func15 rfl rfl (Nat.le_of_ble_eq_true rfl) (fun F => ?_)
  try simp only [List.cons_append, List.nil_append]
  refine T.seq ?_
  refine T.region ?_
  refine LW.q rfl (Qt.assign rfl) ?_
  refine LW.done ?_
  refine T.seq ?_
  refine T.region ?_
  refine LW.q rfl (Qt.move rfl) ?_
  refine LW.q rfl (Qt.move rfl) ?_
  refine LW.e rfl (Ef.call (Bf.pinned_no B g b gf n first count hand pl nl cl Fs page hn hn2 h) Tryz.func41 rfl rfl rfl ?_)
  rintro _ _ ⟨rfl, rfl⟩
  try simp only [List.cons_append, List.nil_append]
  refine LW.q rfl (Qt.assign rfl) ?_
  refine LW.done ?_
  refine T.seq ?_
  refine T.seq ?_
  refine T.region ?_
  refine LW.q rfl (Qt.move rfl) ?_
  first | refine LW.q rfl (Qt.eqlNil (by kernel_rfl) rfl rfl) ?_ | refine LW.q rfl (Qt.eqlNN (by kernel_rfl) rfl rfl) ?_
  refine LW.done ?_
  first | refine T.condT rfl ?_ | refine T.condPT rfl (by omega) ?_ | refine T.condBT rfl (by omega) ?_
  refine T.seq ?_
  refine T.region ?_
  refine LW.q rfl (Qt.assign rfl) ?_
  refine LW.done ?_
  refine T.ret ?_
  exact ⟨.inl rfl, _, _, res [_] rfl ⟨rvT rfl, trivial⟩, ⟨rfl, rfl⟩, Sub.any⟩
set_option maxRecDepth 100000 in
theorem Bf.bytes_no (B : Base) (g b gf n first count hand : Nat) (pl : Option Addr) (nl cl : Nat) (Fs : List Fm) (page : Int) (hn : Fs.length = n) (hn2 : n ≤ 4096) (h : pinnedA (Fs.map Fm.a) page = none) :
    Fn Tryz.prog B 32 #[.pointer (some ⟨g, 0, none⟩), .int .i64 page] [poolB g b gf n first count hand pl nl cl, fmR gf n Fs] (fun u l => u = .tuple #[.slice none 0 0, .int .i64 61] ∧ l = [poolB g b gf n first count hand pl nl cl, fmR gf n Fs]) := by
  refine Fn.enter2 17 Tryz.func32 rfl rfl (Nat.le_of_ble_eq_true rfl) (fun F => ?_)
  try simp only [List.cons_append, List.nil_append]
  refine T.seq ?_
  refine T.region ?_
  refine LW.q rfl (Qt.assign rfl) ?_
  refine LW.q rfl (Qt.assign rfl) ?_
  refine LW.done ?_
  refine T.seq ?_
  refine T.region ?_
  refine LW.q rfl (Qt.move rfl) ?_
  refine LW.q rfl (Qt.move rfl) ?_
  refine LW.e rfl (Ef.call (Bf.pinned_no B g b gf n first count hand pl nl cl Fs page hn hn2 h) Tryz.func41 rfl rfl rfl ?_)
  rintro _ _ ⟨rfl, rfl⟩
  try simp only [List.cons_append, List.nil_append]
  refine LW.q rfl (Qt.assign rfl) ?_
  refine LW.done ?_
  refine T.seq ?_
  refine T.seq ?_
  refine T.region ?_
  refine LW.q rfl (Qt.move rfl) ?_
  first | refine LW.q rfl (Qt.eqlNil (by kernel_rfl) rfl rfl) ?_ | refine LW.q rfl (Qt.eqlNN (by kernel_rfl) rfl rfl) ?_
  refine LW.done ?_
  first | refine T.condT rfl ?_ | refine T.condPT rfl (by omega) ?_ | refine T.condBT rfl (by omega) ?_
  refine T.seq ?_
  refine T.region ?_
  refine LW.q rfl (Qt.assign rfl) ?_
  refine LW.q rfl (Qt.assign rfl) ?_
  refine LW.done ?_
  refine T.ret ?_
  exact ⟨.inl rfl, _, _, res [_, _] rfl ⟨rvT rfl, rvT rfl, trivial⟩, ⟨rfl, rfl⟩, Sub.any⟩
set_option maxRecDepth 100000 in
theorem Bf.put_no (B : Base) (g b gf n first count hand : Nat) (pl : Option Addr) (nl cl : Nat) (Fs : List Fm) (page : Int) (hn : Fs.length = n) (hn2 : n ≤ 4096) (h : pinnedA (Fs.map Fm.a) page = none) (dv : Value) (mark : Int) :
    Fn Tryz.prog B 13 #[.pointer (some ⟨g, 0, none⟩), .int .i64 page, dv, .int .i64 mark] [poolB g b gf n first count hand pl nl cl, fmR gf n Fs] (fun u l => u = .int .i64 61 ∧ l = [poolB g b gf n first count hand pl nl cl, fmR gf n Fs]) := by
  refine Fn.enter4 37 Tryz.func13 rfl rfl (Nat.le_of_ble_eq_true rfl) (fun F => ?_)
  try simp only [List.cons_append, List.nil_append]
  refine T.seq ?_
  refine T.region ?_
  refine LW.q rfl (Qt.assign rfl) ?_
  refine LW.done ?_
  refine T.seq ?_
  refine T.region ?_
  refine LW.q rfl (Qt.move rfl) ?_
  refine LW.q rfl (Qt.move rfl) ?_
  refine LW.e rfl (Ef.call (Bf.pinned_no B g b gf n first count hand pl nl cl Fs page hn hn2 h) Tryz.func41 rfl rfl rfl ?_)
  rintro _ _ ⟨rfl, rfl⟩
  try simp only [List.cons_append, List.nil_append]
  refine LW.q rfl (Qt.assign rfl) ?_
  refine LW.done ?_
  refine T.seq ?_
  refine T.block ?_
  refine T.seq ?_
  refine T.region ?_
  refine LW.q rfl (Qt.move rfl) ?_
  first | refine LW.q rfl (Qt.eqlNil (by kernel_rfl) rfl rfl) ?_ | refine LW.q rfl (Qt.eqlNN (by kernel_rfl) rfl rfl) ?_
  refine LW.q rfl (Qt.assign rfl) ?_
  refine LW.done ?_
  first | refine T.condT rfl ?_ | refine T.condPT rfl (by omega) ?_ | refine T.condBT rfl (by omega) ?_
  refine T.seq ?_
  refine T.region ?_
  refine LW.q rfl (Qt.assign rfl) ?_
  refine LW.done ?_
  refine T.ret ?_
  exact ⟨.inl rfl, _, _, res [_] rfl ⟨rvT rfl, trivial⟩, ⟨rfl, rfl⟩, Sub.any⟩

theorem Has.under_back {A : Assn} : ∀ {m r : List Assn} {h : Piece}, Has (m ++ A :: r) h → Has (A :: (m ++ r)) h
  | [], _, _, H => H
  | _ :: _, _, _, H => Has.swap (Has.cons_imp (fun _ k => Has.under_back k) H)
theorem fd_pinned {Fs : List Fm} {A : List Fa} (hA : Fs.map Fm.a = A) {page : Int} {i : Nat} {x : Fa} (h : pinnedA A page = some (i, x)) : ∃ z, Fd Fs page i z ∧ z.a = x ∧ 0 < z.pins := by
  obtain ⟨h1, h2, h3⟩ := pinnedA_some h
  obtain ⟨z, hz⟩ := fd_of hA h1
  have := map_a_at hA hz.at_
  rw [h2] at this
  cases this
  exact ⟨z, hz, rfl, h3⟩

theorem Bp.unpin (B : Base) (g b n first count hand gl : Nat) (A : List Fa) (page : Int) (hl : A.length = n) (hn2 : n ≤ 4096) (hpin : ∀ x ∈ A, x.pins < 2 ^ 62) :
    Fn Tryz.prog B 15 #[.pointer (some ⟨g, 0, none⟩), .int .i64 page] [plA g b n first count hand gl A] (fun u l => u = .int .i64 (unpinA A page).2 ∧ l = [plA g b n first count hand gl (unpinA A page).1]) := by
  refine Fn.openPl fun q hA hptr ⟨gp, hgp⟩ => ?_
  obtain ⟨Fs, gf, pl, cl⟩ := q
  dsimp only at hA hptr hgp ⊢
  subst hgp
  simp only [plC, List.cons_append, List.nil_append, List.append_nil]
  have hlf : Fs.length = n := by rw [← hl, ← hA, List.length_map]
  have hs : ∀ (A' : List Fa) (Fs' : List Fm), Fs'.map Fm.a = A' → Sub [poolB g b gf n first count hand (some ⟨gp, 0, none⟩) 1 cl, fmR gf n Fs', lgR (some ⟨gp, 0, none⟩) 1 cl [ifW gl], daA Fs'] [plA g b n first count hand gl A'] := fun A' Fs' e => sub_pl (S := []) ⟨Fs', gf, some ⟨gp, 0, none⟩, cl⟩ e
  cases h : pinnedA A page with
  | none =>
    refine Fn.wide (Bf.unpin_no B g b gf n first count hand (some ⟨gp, 0, none⟩) 1 cl Fs page hlf hn2 (by rw [hA]; exact h)) ?_
    rintro v l' ⟨rfl, rfl⟩
    simp only [List.cons_append, List.nil_append]
    exact ⟨_, hs A Fs hA, by simp [unpinA, h], by simp [unpinA, h]⟩
  | some r =>
    obtain ⟨i, x⟩ := r
    obtain ⟨z, hz, rfl, hp⟩ := fd_pinned hA h
    refine Fn.wide (Bf.unpin B g b gf n first count hand (some ⟨gp, 0, none⟩) 1 cl Fs page i z hlf hn2 hz hp (hpin z.a (List.mem_of_getElem? (map_a_at hA hz.at_)))) ?_
    rintro v l' ⟨rfl, rfl⟩
    simp only [List.cons_append, List.nil_append]
    refine ⟨_, ?_, by simp [unpinA, h], rfl⟩
    have := hs (unpinA A page).1 (Fs.set i { z with pins := z.pins - 1 }) (by rw [List.map_set, hA]; simp only [unpinA, h]; rfl)
    rwa [da_same (y := { z with pins := z.pins - 1 }) hz.at_ rfl rfl rfl] at this
theorem Bp.bytes_no (B : Base) (g b n first count hand gl : Nat) (A : List Fa) (page : Int) (hl : A.length = n) (hn2 : n ≤ 4096) (h : pinnedA A page = none) :
    Fn Tryz.prog B 32 #[.pointer (some ⟨g, 0, none⟩), .int .i64 page] [plA g b n first count hand gl A] (fun u l => u = .tuple #[.slice none 0 0, .int .i64 61] ∧ l = [plA g b n first count hand gl A]) := by
  refine Fn.openPl fun q hA hptr ⟨gp, hgp⟩ => ?_
  obtain ⟨Fs, gf, pl, cl⟩ := q
  dsimp only at hA hptr hgp ⊢
  subst hgp
  simp only [plC, List.cons_append, List.nil_append, List.append_nil]
  refine Fn.wide (Bf.bytes_no B g b gf n first count hand (some ⟨gp, 0, none⟩) 1 cl Fs page (by rw [← hl, ← hA, List.length_map]) hn2 (by rw [hA]; exact h)) ?_
  rintro v l' ⟨rfl, rfl⟩
  simp only [List.cons_append, List.nil_append]
  exact ⟨_, sub_pl (S := []) ⟨Fs, gf, some ⟨gp, 0, none⟩, cl⟩ hA, by simp, rfl⟩
theorem Bp.bytes (B : Base) (g b n first count hand gl : Nat) (A : List Fa) (page : Int) (hl : A.length = n) (hn2 : n ≤ 4096) (i : Nat) (x : Fa) (h : pinnedA A page = some (i, x)) (m : Nat) (hm : x.b.length = m) (hb : m < 2 ^ 40) :
    Fn Tryz.prog B 32 #[.pointer (some ⟨g, 0, none⟩), .int .i64 page] [plA g b n first count hand gl A] (fun u l => ∃ p c, u = .tuple #[.slice p m c, .int .i64 0] ∧ (0 < m → ∃ g, p = some ⟨g, 0, none⟩) ∧ l = [rB (.slice p m c) m x.b, plA g b n first count hand gl A]) := by
  refine Fn.openPl fun q hA hptr ⟨gp, hgp⟩ => ?_
  obtain ⟨Fs, gf, pl, cl⟩ := q
  dsimp only at hA hptr hgp ⊢
  subst hgp
  simp only [plC, List.cons_append, List.nil_append, List.append_nil]
  obtain ⟨z, hz, rfl, hp⟩ := fd_pinned hA h
  subst hm
  refine Fn.wide (Bf.bytes B [daA Fs] g b gf n first count hand (some ⟨gp, 0, none⟩) 1 cl Fs page i z (by rw [← hl, ← hA, List.length_map]) hn2 hz hp (RdV.da hz.at_ (hptr i z hz.at_)) hb) ?_
  rintro v l' ⟨p, c, rfl, hp2, rfl⟩
  simp only [List.cons_append, List.nil_append]
  refine ⟨_, fun k K => ?_, p, c, rfl, hp2, rfl⟩
  refine Has.cons_imp (sub_pl (S := []) ⟨Fs, gf, some ⟨gp, 0, none⟩, cl⟩ hA) ?_
  simp only [plC, List.append_nil]
  have K2 : Has [rB (.slice p z.b.length c) z.b.length z.b, poolB g b gf n first count hand (some ⟨gp, 0, none⟩) 1 cl, fmR gf n Fs, lgR (some ⟨gp, 0, none⟩) 1 cl [ifW gl], daA Fs] k := Sub.any k K
  exact K2
theorem Bp.put_no (B : Base) (g b n first count hand gl : Nat) (A : List Fa) (page : Int) (hl : A.length = n) (hn2 : n ≤ 4096) (a : Option Addr) (m ca : Nat) (d : List UInt8) (hd : d.length = m) (mark : Int) (h : pinnedA A page = none ∨ d.length ≠ 256) :
    Fn Tryz.prog B 13 #[.pointer (some ⟨g, 0, none⟩), .int .i64 page, .slice a m ca, .int .i64 mark] [plA g b n first count hand gl A] (fun u l => u = .int .i64 (putA A page d mark).2 ∧ (putA A page d mark).1 = A ∧ l = [plA g b n first count hand gl A]) := by
  refine Fn.openPl fun q hA hptr ⟨gp, hgp⟩ => ?_
  obtain ⟨Fs, gf, pl, cl⟩ := q
  dsimp only at hA hptr hgp ⊢
  subst hgp
  simp only [plC, List.cons_append, List.nil_append, List.append_nil]
  have hlf : Fs.length = n := by rw [← hl, ← hA, List.length_map]
  cases h2 : pinnedA A page with
  | none =>
    refine Fn.wide (Bf.put_no B g b gf n first count hand (some ⟨gp, 0, none⟩) 1 cl Fs page hlf hn2 (by rw [hA]; exact h2) (.slice a m ca) mark) ?_
    rintro v l' ⟨rfl, rfl⟩
    simp only [List.cons_append, List.nil_append]
    exact ⟨_, sub_pl (S := []) ⟨Fs, gf, some ⟨gp, 0, none⟩, cl⟩ hA, by simp [putA, h2], by simp [putA, h2], rfl⟩
  | some r =>
    obtain ⟨i, x⟩ := r
    obtain ⟨z, hz, rfl, hp⟩ := fd_pinned hA h2
    have hd2 : d.length ≠ 256 := h.resolve_left (by rw [h2]; simp)
    refine Fn.wide (Bf.put_length B g b gf n first count hand (some ⟨gp, 0, none⟩) 1 cl Fs page i z hlf hn2 hz hp a m ca mark (by omega)) ?_
    rintro v l' ⟨rfl, rfl⟩
    simp only [List.cons_append, List.nil_append]
    exact ⟨_, sub_pl (S := []) ⟨Fs, gf, some ⟨gp, 0, none⟩, cl⟩ hA, by simp [putA, h2, hd2], by simp [putA, h2, hd2], rfl⟩
theorem Bp.put (B : Base) (S : List Assn) (g b n first count hand gl : Nat) (A : List Fa) (page : Int) (hl : A.length = n) (hn2 : n ≤ 4096) (i : Nat) (x : Fa) (h : pinnedA A page = some (i, x)) (a : Option Addr) (ca : Nat) (d : List UInt8) (mark : Int) (hd : d.length = 256) (hv : RdV B S (.slice a 256 ca) (bytesV d)) :
    Fn Tryz.prog B 13 #[.pointer (some ⟨g, 0, none⟩), .int .i64 page, .slice a 256 ca, .int .i64 mark] (plA g b n first count hand gl A :: S) (fun u l => u = .int .i64 (putA A page d mark).2 ∧ l = plA g b n first count hand gl (putA A page d mark).1 :: S) := by
  refine Fn.openPl fun q hA hptr ⟨gp, hgp⟩ => ?_
  obtain ⟨Fs, gf, pl, cl⟩ := q
  dsimp only at hA hptr hgp ⊢
  subst hgp
  simp only [plC, List.cons_append, List.nil_append, List.append_nil]
  have hlf : Fs.length = n := by rw [← hl, ← hA, List.length_map]
  obtain ⟨z, hz, rfl, hp⟩ := fd_pinned hA h
  have hil : i < Fs.length := (List.getElem?_eq_some_iff.1 hz.at_).1
  have h0 := (Bf.put B (lgR (some ⟨gp, 0, none⟩) 1 cl [ifW gl] :: daA Fs :: S) g b gf n first count hand (some ⟨gp, 0, none⟩) 1 cl Fs page i z hlf hn2 hz hp a ca d mark hd (hv.mono fun w ho => ho.tl.tl))
  refine h0.sub ?_
  rintro v l' ⟨p, c, rfl, hp2, rfl⟩
  refine ⟨_, fun k K => ?_, by simp [putA, h, hd], rfl⟩
  refine sub_pl ⟨Fs.set i { z with mark := max z.mark mark, dirty := true, p := p, c := c, b := d }, gf, some ⟨gp, 0, none⟩, cl⟩ (by simp only [putA, h]; rw [List.map_set, hA, if_neg (by simp [hd])]; rfl) k ?_
  simp only [plC, List.cons_append, List.nil_append]
  have K2 : Has (rB (.slice p 256 c) 256 d :: daA Fs :: ([poolB g b gf n first count hand (some ⟨gp, 0, none⟩) 1 cl, fmR gf n (Fs.set i { z with mark := max z.mark mark, dirty := true, p := p, c := c, b := d }), lgR (some ⟨gp, 0, none⟩) 1 cl [ifW gl]] ++ S)) k := by
    refine Has.cons_imp (fun k1 K1 => ?_) K
    have : Has ([poolB g b gf n first count hand (some ⟨gp, 0, none⟩) 1 cl, fmR gf n (Fs.set i { z with mark := max z.mark mark, dirty := true, p := p, c := c, b := d }), lgR (some ⟨gp, 0, none⟩) 1 cl [ifW gl]] ++ (daA Fs :: S)) k1 := K1
    exact Has.under_back this
  have K3 := da_put (y := { z with mark := max z.mark mark, dirty := true, p := p, c := c, b := d }) hil k (by rw [fmD]; dsimp only; rw [hd]; exact K2)
  have K4 : Has ([poolB g b gf n first count hand (some ⟨gp, 0, none⟩) 1 cl, fmR gf n (Fs.set i { z with mark := max z.mark mark, dirty := true, p := p, c := c, b := d }), lgR (some ⟨gp, 0, none⟩) 1 cl [ifW gl]] ++ (daA (Fs.set i { z with mark := max z.mark mark, dirty := true, p := p, c := c, b := d }) :: S)) k := Has.under K3
  exact K4

theorem da_none (n : Nat) (l : List Assn) : Sub l (daA (List.replicate n fm1) :: l) := fun h H => by
  refine ⟨fun _ => none, h, ⟨fun _ => .inl rfl⟩, ⟨fun _ _ e => (by cases e)⟩, Piece.le_refl h, ?_, H⟩
  show Has ((List.replicate n fm1).map fmD) _
  induction n with
  | zero => trivial
  | succ n ih => exact ⟨fun _ => none, fun _ => none, ⟨fun _ => .inl rfl⟩, Piece.le_refl _, Piece.le_refl _, ⟨by simp, .inl ⟨rfl, rfl⟩⟩, ih⟩
theorem map_fm1 (n : Nat) : (List.replicate n fm1).map Fm.a = List.replicate n fa1 := by simp [Fm.a]
theorem FOk.new (count n : Nat) (h1 : 1 ≤ n) (h2 : n ≤ 4096) : FOk count n (List.replicate n fa1) := by
  have hx : ∀ x ∈ List.replicate n fa1, x = fa1 := fun x hx => (List.mem_replicate.1 hx).2
  refine ⟨by simp, h1, h2, fun x h => .inl (hx x h), fun x h => by rw [hx x h]; exact ⟨by decide, by decide⟩, fun i j x y hi hj e h0 => ?_⟩
  rw [hx x (List.mem_of_getElem? hi)] at h0
  exact absurd h0 (by decide)

/-! the statements' laid -/
abbrev benchB (gb b gl g : Nat) : Assn := blk gb [.pointer (some ⟨b, 0, none⟩), .pointer (some ⟨gl, 0, none⟩), .pointer (some ⟨g, 0, none⟩)] 55
def LaidP (n : Nat) (u : Value) (l : List Assn) : Prop := ∃ gb b gl g D, u = .pointer (some ⟨gb, 0, none⟩) ∧ D.Ok ∧ D.secs.length = 12 ∧ D.pend = [] ∧ (∀ x, 0 ≤ x → x < 12 → D.read x = List.replicate 256 0) ∧
  l = [benchB gb b gl g, plA g b n 4 8 0 gl (List.replicate n fa1), wlA gl b (mkW 0 4 [] 0), dskA b D]
theorem Bp.laid (B : Base) (n : Nat) (i : Int) (hi : i = n) (h1 : 1 ≤ n) (h2 : n ≤ 4096) : Fn Tryz.prog B 5 #[.int .i64 i] [] (LaidP n) := by
  refine (Bf.laid B n i hi h1 h2).sub ?_
  rintro v l ⟨gb, b, gl, g, gf, pl, cl, D, rfl, e1, e2, e3, e4, rfl⟩
  refine ⟨_, fun k K => ?_, gb, b, gl, g, D, rfl, e1, e2, e3, e4, rfl⟩
  refine Has.cons_imp (fun k2 K2 => sub_pl ⟨List.replicate n fm1, gf, pl, cl⟩ (map_fm1 n) k2 ?_) K
  simp only [plC, List.cons_append, List.nil_append]
  have K3 := da_none n _ k2 K2
  exact Sub.any k2 K3
set_option maxHeartbeats 2000000 in
set_option maxRecDepth 100000 in
theorem Bp.laid_no (B : Base) (frames : Int) (h : frames < 1 ∨ 4096 < frames) : Fn Tryz.prog B 5 #[.int .i64 frames] [] (fun u l => u = .pointer none ∧ l = []) := by
  refine Fn.enter1 44 Tryz.func5 rfl rfl (Nat.le_of_ble_eq_true rfl) (fun F => ?_)
  try simp only [List.cons_append, List.nil_append]
  refine T.seq ?_
  refine T.region ?_
  refine LW.q rfl (Qt.assign rfl) ?_
  refine LW.done ?_
  refine T.seq ?_
  refine T.region ?_
  refine LW.e rfl (Ef.call (Dk.newF B 12 12 rfl (by omega) (by omega)) Tryz.func19 rfl rfl rfl ?_)
  rintro _ _ ⟨b, rfl, rfl⟩
  try simp only [List.cons_append, List.nil_append]
  refine LW.q rfl (Qt.move rfl) ?_
  refine LW.q rfl (Qt.extract rfl rfl) ?_
  refine LW.q rfl (Qt.extract rfl rfl) ?_
  refine LW.q rfl (Qt.assign rfl) ?_
  refine LW.q rfl (Qt.assign rfl) ?_
  refine LW.done ?_
  refine T.seq ?_
  refine T.seq ?_
  refine T.region ?_
  refine LW.q rfl (Qt.move rfl) ?_
  first | refine LW.q rfl (Qt.eqlNil (by kernel_rfl) rfl rfl) ?_ | refine LW.q rfl (Qt.eqlNN (by kernel_rfl) rfl rfl) ?_
  refine LW.done ?_
  first | refine T.condF rfl ?_ | refine T.condPF rfl (by omega) ?_ | refine T.condBF rfl (by omega) ?_
  refine T.skip ?_
  refine T.seq ?_
  refine T.region ?_
  refine LW.q rfl (Qt.move rfl) ?_
  refine LW.e rfl (Ef.call (Wl.openText B b ⟨List.replicate 12 zs, []⟩ 0 4 [] 0 4 rfl rfl (by omega) (by simp) (by simp) (Secs.new (by omega)) (by simp) (by simp [logB])) Tryz.func20 rfl rfl rfl ?_)
  rintro _ _ ⟨gl, q, cq, R, D1, e1, e2, e3, e4, e5, e6, rfl, rfl⟩
  try simp only [List.cons_append, List.nil_append]
  have hl1 : D1.secs.length = 12 := by rw [e3]; rfl
  refine LW.q rfl (Qt.move rfl) ?_
  refine LW.q rfl (Qt.extract rfl rfl) ?_
  refine LW.q rfl (Qt.extract rfl rfl) ?_
  refine LW.q rfl (Qt.extract rfl rfl) ?_
  refine LW.q rfl (Qt.assign rfl) ?_
  refine LW.q rfl (Qt.assign rfl) ?_
  refine LW.q rfl (Qt.assign rfl) ?_
  refine LW.done ?_
  refine T.seq ?_
  refine T.seq ?_
  refine T.region ?_
  refine LW.q rfl (Qt.move rfl) ?_
  first | refine LW.q rfl (Qt.eqlNil (by kernel_rfl) rfl rfl) ?_ | refine LW.q rfl (Qt.eqlNN (by kernel_rfl) rfl rfl) ?_
  refine LW.done ?_
  first | refine T.condF rfl ?_ | refine T.condPF rfl (by omega) ?_ | refine T.condBF rfl (by omega) ?_
  refine T.skip ?_
  refine T.seq ?_
  refine T.region ?_
  refine LW.q rfl (Qt.move rfl) ?_
  refine LW.q rfl (Qt.move rfl) ?_
  refine LW.q rfl (Qt.move rfl) ?_
  refine LW.q rfl (Qt.iface (v := .pointer (some ⟨gl, 0, none⟩)) (by kernel_rfl) rfl) ?_
  refine LW.e rfl (Ef.one [_] (e := 128) (sz := 1) (by kernel_rfl) ⟨.nilIface, by kernel_rfl, rfl⟩ rfl rfl rfl (by omega) (by omega) ?_)
  intro g29
  refine LW.e rfl (Ef.call (Bf.new_no B b D1 4 8 frames (.slice (some ⟨g29, 0, none⟩) 1 1) (by omega) (by omega) (by omega) (by omega)) Tryz.func21 rfl rfl rfl ?_)
  rintro _ _ ⟨rfl, rfl⟩
  try simp only [List.cons_append, List.nil_append]
  refine LW.q rfl (Qt.move rfl) ?_
  refine LW.q rfl (Qt.extract rfl rfl) ?_
  refine LW.q rfl (Qt.extract rfl rfl) ?_
  refine LW.q rfl (Qt.assign rfl) ?_
  refine LW.q rfl (Qt.assign rfl) ?_
  refine LW.done ?_
  refine T.seq ?_
  refine T.seq ?_
  refine T.region ?_
  refine LW.q rfl (Qt.move rfl) ?_
  first | refine LW.q rfl (Qt.eqlNil (by kernel_rfl) rfl rfl) ?_ | refine LW.q rfl (Qt.eqlNN (by kernel_rfl) rfl rfl) ?_
  refine LW.q rfl (Qt.move rfl) ?_
  first | refine LW.gT (t := 35) rfl rfl ?_ | refine LW.gT (t := 35) rfl (decide_eq_true (by omega)) ?_ | refine LW.gT (t := 35) rfl (by omega) ?_
  refine LW.s rfl ?_
  refine LW.s rfl ?_
  refine LW.q rfl (Qt.pick rfl rfl) ?_
  refine LW.done ?_
  first | refine T.condT rfl ?_ | refine T.condPT rfl (by omega) ?_ | refine T.condBT rfl (by omega) ?_
  refine T.seq ?_
  refine T.region ?_
  refine LW.q rfl (Qt.assign rfl) ?_
  refine LW.done ?_
  refine T.ret ?_
  exact ⟨.inl rfl, _, _, res [_] rfl ⟨rvT rfl, trivial⟩, ⟨rfl, rfl⟩, Sub.any⟩
/-- Which pools are refused. -/
def wrongP (sectors first count frames : Int) : Prop := first < 0 ∨ count < 1 ∨ sectors < count ∨ sectors - count < first ∨ frames < 1 ∨ 4096 < frames
instance (a b c d : Int) : Decidable (wrongP a b c d) := by unfold wrongP; infer_instance
theorem Rp.wrong_yes (B : Base) (sectors first count frames : Int) (hs : 0 ≤ sectors ∧ sectors ≤ 4096) (hc : count < 2 ^ 63) (h : wrongP sectors first count frames) : Fn Tryz.prog B 6 #[.int .i64 sectors, .int .i64 first, .int .i64 count, .int .i64 frames] [] (fun u l => u = .int .i64 1 ∧ l = []) := by
 unfold wrongP at h
 refine Fn.enter4 35 Tryz.func6 rfl rfl (Nat.le_of_ble_eq_true rfl) (fun F => ?_)
 try simp only [List.cons_append, List.nil_append]
 refine T.seq ?_
 refine T.region ?_
 refine LW.q rfl (Qt.assign rfl) ?_
 refine LW.done ?_
 refine T.seq ?_
 refine T.seq ?_
 refine T.region ?_
 refine LW.q rfl (Qt.move rfl) ?_
 refine LW.q rfl (Qt.lss rfl rfl) ?_
 refine LW.q rfl (Qt.move rfl) ?_
 refine LW.split (t := 11) rfl (fun h1 => ?_) (fun h1 => ?_)
 ·
  try replace h1 := of_decide_eq_true h1
  refine LW.s rfl ?_
  refine LW.s rfl ?_
  refine LW.q rfl (Qt.pick rfl rfl) ?_
  refine LW.q rfl (Qt.move rfl) ?_
  first | refine LW.gT (t := 15) rfl rfl ?_ | refine LW.gT (t := 15) rfl (decide_eq_true (by omega)) ?_ | refine LW.gT (t := 15) rfl (by omega) ?_
  refine LW.s rfl ?_
  refine LW.s rfl ?_
  refine LW.s rfl ?_
  refine LW.q rfl (Qt.pick rfl rfl) ?_
  refine LW.q rfl (Qt.move rfl) ?_
  first | refine LW.gT (t := 20) rfl rfl ?_ | refine LW.gT (t := 20) rfl (decide_eq_true (by omega)) ?_ | refine LW.gT (t := 20) rfl (by omega) ?_
  refine LW.s rfl ?_
  refine LW.s rfl ?_
  refine LW.s rfl ?_
  refine LW.s rfl ?_
  refine LW.s rfl ?_
  refine LW.q rfl (Qt.pick rfl rfl) ?_
  refine LW.q rfl (Qt.move rfl) ?_
  first | refine LW.gT (t := 27) rfl rfl ?_ | refine LW.gT (t := 27) rfl (decide_eq_true (by omega)) ?_ | refine LW.gT (t := 27) rfl (by omega) ?_
  refine LW.s rfl ?_
  refine LW.s rfl ?_
  refine LW.q rfl (Qt.pick rfl rfl) ?_
  refine LW.q rfl (Qt.move rfl) ?_
  first | refine LW.gT (t := 31) rfl rfl ?_ | refine LW.gT (t := 31) rfl (decide_eq_true (by omega)) ?_ | refine LW.gT (t := 31) rfl (by omega) ?_
  refine LW.s rfl ?_
  refine LW.s rfl ?_
  refine LW.q rfl (Qt.pick rfl rfl) ?_
  refine LW.done ?_
  first | refine T.condT rfl ?_ | refine T.condPT rfl (by omega) ?_ | refine T.condBT rfl (by omega) ?_
  refine T.seq ?_
  refine T.region ?_
  refine LW.q rfl (Qt.assign rfl) ?_
  refine LW.done ?_
  refine T.ret ?_
  exact ⟨.inl rfl, _, _, res [_] rfl ⟨rvT rfl, trivial⟩, ⟨rfl, rfl⟩, Sub.any⟩
 ·
  try replace h1 := of_decide_eq_false h1
  refine LW.q rfl (Qt.move rfl) ?_
  refine LW.q rfl (Qt.lss rfl rfl) ?_
  refine LW.q rfl (Qt.pick rfl rfl) ?_
  refine LW.q rfl (Qt.move rfl) ?_
  refine LW.split (t := 15) rfl (fun h2 => ?_) (fun h2 => ?_)
  ·
   try replace h2 := of_decide_eq_true h2
   refine LW.s rfl ?_
   refine LW.s rfl ?_
   refine LW.s rfl ?_
   refine LW.q rfl (Qt.pick rfl rfl) ?_
   refine LW.q rfl (Qt.move rfl) ?_
   first | refine LW.gT (t := 20) rfl rfl ?_ | refine LW.gT (t := 20) rfl (decide_eq_true (by omega)) ?_ | refine LW.gT (t := 20) rfl (by omega) ?_
   refine LW.s rfl ?_
   refine LW.s rfl ?_
   refine LW.s rfl ?_
   refine LW.s rfl ?_
   refine LW.s rfl ?_
   refine LW.q rfl (Qt.pick rfl rfl) ?_
   refine LW.q rfl (Qt.move rfl) ?_
   first | refine LW.gT (t := 27) rfl rfl ?_ | refine LW.gT (t := 27) rfl (decide_eq_true (by omega)) ?_ | refine LW.gT (t := 27) rfl (by omega) ?_
   refine LW.s rfl ?_
   refine LW.s rfl ?_
   refine LW.q rfl (Qt.pick rfl rfl) ?_
   refine LW.q rfl (Qt.move rfl) ?_
   first | refine LW.gT (t := 31) rfl rfl ?_ | refine LW.gT (t := 31) rfl (decide_eq_true (by omega)) ?_ | refine LW.gT (t := 31) rfl (by omega) ?_
   refine LW.s rfl ?_
   refine LW.s rfl ?_
   refine LW.q rfl (Qt.pick rfl rfl) ?_
   refine LW.done ?_
   first | refine T.condT rfl ?_ | refine T.condPT rfl (by omega) ?_ | refine T.condBT rfl (by omega) ?_
   refine T.seq ?_
   refine T.region ?_
   refine LW.q rfl (Qt.assign rfl) ?_
   refine LW.done ?_
   refine T.ret ?_
   exact ⟨.inl rfl, _, _, res [_] rfl ⟨rvT rfl, trivial⟩, ⟨rfl, rfl⟩, Sub.any⟩
  ·
   try replace h2 := of_decide_eq_false h2
   refine LW.q rfl (Qt.move rfl) ?_
   refine LW.q rfl (Qt.move rfl) ?_
   refine LW.q rfl (Qt.gtr rfl rfl) ?_
   refine LW.q rfl (Qt.pick rfl rfl) ?_
   refine LW.q rfl (Qt.move rfl) ?_
   refine LW.split (t := 20) rfl (fun h3 => ?_) (fun h3 => ?_)
   ·
    try replace h3 := of_decide_eq_true h3
    refine LW.s rfl ?_
    refine LW.s rfl ?_
    refine LW.s rfl ?_
    refine LW.s rfl ?_
    refine LW.s rfl ?_
    refine LW.q rfl (Qt.pick rfl rfl) ?_
    refine LW.q rfl (Qt.move rfl) ?_
    first | refine LW.gT (t := 27) rfl rfl ?_ | refine LW.gT (t := 27) rfl (decide_eq_true (by omega)) ?_ | refine LW.gT (t := 27) rfl (by omega) ?_
    refine LW.s rfl ?_
    refine LW.s rfl ?_
    refine LW.q rfl (Qt.pick rfl rfl) ?_
    refine LW.q rfl (Qt.move rfl) ?_
    first | refine LW.gT (t := 31) rfl rfl ?_ | refine LW.gT (t := 31) rfl (decide_eq_true (by omega)) ?_ | refine LW.gT (t := 31) rfl (by omega) ?_
    refine LW.s rfl ?_
    refine LW.s rfl ?_
    refine LW.q rfl (Qt.pick rfl rfl) ?_
    refine LW.done ?_
    first | refine T.condT rfl ?_ | refine T.condPT rfl (by omega) ?_ | refine T.condBT rfl (by omega) ?_
    refine T.seq ?_
    refine T.region ?_
    refine LW.q rfl (Qt.assign rfl) ?_
    refine LW.done ?_
    refine T.ret ?_
    exact ⟨.inl rfl, _, _, res [_] rfl ⟨rvT rfl, trivial⟩, ⟨rfl, rfl⟩, Sub.any⟩
   ·
    try replace h3 := of_decide_eq_false h3
    refine LW.q rfl (Qt.move rfl) ?_
    refine LW.q rfl (Qt.move rfl) ?_
    refine LW.q rfl (Qt.move rfl) ?_
    refine LW.q rfl (Qt.sub rfl rfl (wr64 (by omega) (by omega))) ?_
    refine LW.q rfl (Qt.gtr rfl rfl) ?_
    refine LW.q rfl (Qt.pick rfl rfl) ?_
    refine LW.q rfl (Qt.move rfl) ?_
    refine LW.split (t := 27) rfl (fun h4 => ?_) (fun h4 => ?_)
    ·
     try replace h4 := of_decide_eq_true h4
     refine LW.s rfl ?_
     refine LW.s rfl ?_
     refine LW.q rfl (Qt.pick rfl rfl) ?_
     refine LW.q rfl (Qt.move rfl) ?_
     first | refine LW.gT (t := 31) rfl rfl ?_ | refine LW.gT (t := 31) rfl (decide_eq_true (by omega)) ?_ | refine LW.gT (t := 31) rfl (by omega) ?_
     refine LW.s rfl ?_
     refine LW.s rfl ?_
     refine LW.q rfl (Qt.pick rfl rfl) ?_
     refine LW.done ?_
     first | refine T.condT rfl ?_ | refine T.condPT rfl (by omega) ?_ | refine T.condBT rfl (by omega) ?_
     refine T.seq ?_
     refine T.region ?_
     refine LW.q rfl (Qt.assign rfl) ?_
     refine LW.done ?_
     refine T.ret ?_
     exact ⟨.inl rfl, _, _, res [_] rfl ⟨rvT rfl, trivial⟩, ⟨rfl, rfl⟩, Sub.any⟩
    ·
     try replace h4 := of_decide_eq_false h4
     refine LW.q rfl (Qt.move rfl) ?_
     refine LW.q rfl (Qt.lss rfl rfl) ?_
     refine LW.q rfl (Qt.pick rfl rfl) ?_
     refine LW.q rfl (Qt.move rfl) ?_
     refine LW.split (t := 31) rfl (fun h5 => ?_) (fun h5 => ?_)
     ·
      try replace h5 := of_decide_eq_true h5
      refine LW.s rfl ?_
      refine LW.s rfl ?_
      refine LW.q rfl (Qt.pick rfl rfl) ?_
      refine LW.done ?_
      first | refine T.condT rfl ?_ | refine T.condPT rfl (by omega) ?_ | refine T.condBT rfl (by omega) ?_
      refine T.seq ?_
      refine T.region ?_
      refine LW.q rfl (Qt.assign rfl) ?_
      refine LW.done ?_
      refine T.ret ?_
      exact ⟨.inl rfl, _, _, res [_] rfl ⟨rvT rfl, trivial⟩, ⟨rfl, rfl⟩, Sub.any⟩
     ·
      try replace h5 := of_decide_eq_false h5
      refine LW.q rfl (Qt.move rfl) ?_
      refine LW.q rfl (Qt.gtr rfl rfl) ?_
      refine LW.q rfl (Qt.pick rfl rfl) ?_
      refine LW.done ?_
      first | refine T.condT rfl ?_ | refine T.condPT rfl (by omega) ?_ | refine T.condBT rfl (by omega) ?_
      refine T.seq ?_
      refine T.region ?_
      refine LW.q rfl (Qt.assign rfl) ?_
      refine LW.done ?_
      refine T.ret ?_
      exact ⟨.inl rfl, _, _, res [_] rfl ⟨rvT rfl, trivial⟩, ⟨rfl, rfl⟩, Sub.any⟩
theorem Rp.wrong_no (B : Base) (sectors first count frames : Int) (hs : 0 ≤ sectors ∧ sectors ≤ 4096) (h : ¬ wrongP sectors first count frames) : Fn Tryz.prog B 6 #[.int .i64 sectors, .int .i64 first, .int .i64 count, .int .i64 frames] [] (fun u l => u = .int .i64 0 ∧ l = []) := by
  unfold wrongP at h
  refine Fn.enter4 35 Tryz.func6 rfl rfl (Nat.le_of_ble_eq_true rfl) (fun F => ?_)
  try simp only [List.cons_append, List.nil_append]
  refine T.seq ?_
  refine T.region ?_
  refine LW.q rfl (Qt.assign rfl) ?_
  refine LW.done ?_
  refine T.seq ?_
  refine T.seq ?_
  refine T.region ?_
  refine LW.q rfl (Qt.move rfl) ?_
  refine LW.q rfl (Qt.lss rfl rfl) ?_
  refine LW.q rfl (Qt.move rfl) ?_
  first | refine LW.gF (t := 11) rfl rfl ?_ | refine LW.gF (t := 11) rfl (decide_eq_false (by omega)) ?_ | refine LW.gF (t := 11) rfl (by omega) ?_
  refine LW.q rfl (Qt.move rfl) ?_
  refine LW.q rfl (Qt.lss rfl rfl) ?_
  refine LW.q rfl (Qt.pick rfl rfl) ?_
  refine LW.q rfl (Qt.move rfl) ?_
  first | refine LW.gF (t := 15) rfl rfl ?_ | refine LW.gF (t := 15) rfl (decide_eq_false (by omega)) ?_ | refine LW.gF (t := 15) rfl (by omega) ?_
  refine LW.q rfl (Qt.move rfl) ?_
  refine LW.q rfl (Qt.move rfl) ?_
  refine LW.q rfl (Qt.gtr rfl rfl) ?_
  refine LW.q rfl (Qt.pick rfl rfl) ?_
  refine LW.q rfl (Qt.move rfl) ?_
  first | refine LW.gF (t := 20) rfl rfl ?_ | refine LW.gF (t := 20) rfl (decide_eq_false (by omega)) ?_ | refine LW.gF (t := 20) rfl (by omega) ?_
  refine LW.q rfl (Qt.move rfl) ?_
  refine LW.q rfl (Qt.move rfl) ?_
  refine LW.q rfl (Qt.move rfl) ?_
  refine LW.q rfl (Qt.sub rfl rfl (wr64 (by omega) (by omega))) ?_
  refine LW.q rfl (Qt.gtr rfl rfl) ?_
  refine LW.q rfl (Qt.pick rfl rfl) ?_
  refine LW.q rfl (Qt.move rfl) ?_
  first | refine LW.gF (t := 27) rfl rfl ?_ | refine LW.gF (t := 27) rfl (decide_eq_false (by omega)) ?_ | refine LW.gF (t := 27) rfl (by omega) ?_
  refine LW.q rfl (Qt.move rfl) ?_
  refine LW.q rfl (Qt.lss rfl rfl) ?_
  refine LW.q rfl (Qt.pick rfl rfl) ?_
  refine LW.q rfl (Qt.move rfl) ?_
  first | refine LW.gF (t := 31) rfl rfl ?_ | refine LW.gF (t := 31) rfl (decide_eq_false (by omega)) ?_ | refine LW.gF (t := 31) rfl (by omega) ?_
  refine LW.q rfl (Qt.move rfl) ?_
  refine LW.q rfl (Qt.gtr rfl rfl) ?_
  refine LW.q rfl (Qt.pick rfl rfl) ?_
  refine LW.done ?_
  first | refine T.condF rfl ?_ | refine T.condPF rfl (by omega) ?_ | refine T.condBF rfl (by omega) ?_
  refine T.skip ?_
  refine T.seq ?_
  refine T.region ?_
  refine LW.q rfl (Qt.assign rfl) ?_
  refine LW.done ?_
  refine T.ret ?_
  exact ⟨.inl rfl, _, _, res [_] rfl ⟨rvT rfl, trivial⟩, ⟨rfl, rfl⟩, Sub.any⟩

end Go.Proofs.YtegohgaccmkigaaGreatDoor

/- The statement BufferKeeps. Conditions: that what is handed in can be read; sizes. -/
set_option linter.unusedSimpArgs false
set_option linter.unusedVariables false
namespace Go.Proofs.YtegohgaccmkigaaGreatDoor
open Go.RowKit

theorem Bp.put_any (B : Base) (S : List Assn) (g b n first count hand gl : Nat) (A : List Fa) (page : Int) (hl : A.length = n) (hn2 : n ≤ 4096) (a : Option Addr) (m ca : Nat) (d : List UInt8) (mark : Int) (hd : d.length = m) (hv : RdV B S (.slice a m ca) (bytesV d)) :
    Fn Tryz.prog B 13 #[.pointer (some ⟨g, 0, none⟩), .int .i64 page, .slice a m ca, .int .i64 mark] (plA g b n first count hand gl A :: S) (fun u l => u = .int .i64 (putA A page d mark).2 ∧ l = plA g b n first count hand gl (putA A page d mark).1 :: S) := by
  cases h : pinnedA A page with
  | none =>
    refine Fn.wide (Bp.put_no B g b n first count hand gl A page hl hn2 a m ca d hd mark (.inl h)) ?_
    rintro v l' ⟨rfl, e, rfl⟩
    exact ⟨_, fun k K => K, rfl, by rw [e]; rfl⟩
  | some r =>
    by_cases h2 : d.length = 256
    · obtain rfl : m = 256 := by omega
      exact Bp.put B S g b n first count hand gl A page hl hn2 r.1 r.2 h a ca d mark h2 hv
    · refine Fn.wide (Bp.put_no B g b n first count hand gl A page hl hn2 a m ca d hd mark (.inr h2)) ?_
      rintro v l' ⟨rfl, e, rfl⟩
      exact ⟨_, fun k K => K, rfl, by rw [e]; rfl⟩
end Go.Proofs.YtegohgaccmkigaaGreatDoor

/- The package buffer: Flush. Conditions: sizes; the frames are in order. -/
set_option linter.unusedSimpArgs false
set_option linter.unusedVariables false
namespace Go.Proofs.YtegohgaccmkigaaGreatDoor
open Go.RowKit

/-! writes of several sectors -/
theorem writes_ok : ∀ {L : List (Nat × List UInt8)} {D : DD}, D.Ok → (∀ p ∈ L, p.1 < D.secs.length ∧ p.2.length = 256) → (writesP D L).Ok ∧ (writesP D L).secs.length = D.secs.length ∧ (writesP D L).pend.length = D.pend.length + L.length
  | [], D, h, _ => ⟨h, rfl, rfl⟩
  | p :: L, D, h, hL => by
    obtain ⟨h1, h2⟩ := hL p (List.mem_cons_self ..)
    obtain ⟨a, b, c⟩ := writes_ok (L := L) (h.wr2 p.1 p.2 h1 h2) (fun q hq => hL q (List.mem_cons_of_mem _ hq))
    exact ⟨a, b, by rw [writesP, c]; simp [DD.write]; omega⟩
theorem writes_out {n : Nat} : ∀ {L : List (Nat × List UInt8)} {D : DD}, (∀ p ∈ L, p.1 ≠ n) → (writesP D L).read n = D.read n
  | [], _, _ => rfl
  | p :: L, D, h => by
    rw [writesP, writes_out (fun q hq => h q (List.mem_cons_of_mem _ hq)), DD.rdW, if_neg (h p (List.mem_cons_self ..))]
theorem writes_in {n : Nat} {b : List UInt8} : ∀ {L : List (Nat × List UInt8)} {D : DD}, (L.map Prod.fst).Nodup → (n, b) ∈ L → (writesP D L).read n = b
  | [], _, _, h => by cases h
  | p :: L, D, hd, h => by
    simp only [List.map_cons, List.nodup_cons] at hd
    rcases List.mem_cons.1 h with rfl | h
    · rw [writesP, writes_out (fun q hq e => hd.1 (List.mem_map.2 ⟨q, hq, e⟩)), DD.rdW, if_pos rfl]
    · rw [writesP]; exact writes_in hd.2 h
theorem DD.ext_read {D E : DD} (hD : D.pend = []) (hE : E.pend = []) (hl : D.secs.length = E.secs.length) (h : ∀ n, n < D.secs.length → D.read n = E.read n) : D = E := by
  have : D.secs = E.secs := by
    apply List.ext_getElem hl
    intro i h1 h2
    have := h i h1
    rw [DD.rdN _ hD, DD.rdN _ hE, List.getD_eq_getElem?_getD, List.getD_eq_getElem?_getD, List.getElem?_eq_getElem h1, List.getElem?_eq_getElem h2] at this
    exact this
  cases D; cases E; simp_all
theorem writes_sync {L L' : List (Nat × List UInt8)} {D : DD} (ho : D.Ok) (hL : ∀ p ∈ L, p.1 < D.secs.length ∧ p.2.length = 256) (h1 : (L.map Prod.fst).Nodup) (h2 : (L'.map Prod.fst).Nodup) (he : ∀ p, p ∈ L ↔ p ∈ L') : (writesP D L).sync = (writesP D L').sync := by
  have a := writes_ok ho hL
  have b := writes_ok ho (fun p hp => hL p ((he p).2 hp))
  refine DD.ext_read rfl rfl ((DD.sync_len a.1).trans (a.2.1.trans ((DD.sync_len b.1).trans b.2.1).symm)) fun n hn => ?_
  rw [DD.sync_len a.1] at hn
  rw [DD.rdS a.1 n hn, DD.rdS b.1 n (by rw [b.2.1, ← a.2.1]; exact hn)]
  by_cases hx : ∃ d, (n, d) ∈ L
  · obtain ⟨d, hd⟩ := hx
    rw [writes_in h1 hd, writes_in h2 ((he _).1 hd)]
  · rw [writes_out (fun p hp e => hx ⟨p.2, by rw [← e]; exact hp⟩), writes_out (fun p hp e => hx ⟨p.2, by rw [← e]; exact (he _).2 hp⟩)]

/-! which frames are changed -/
theorem dirty_mem {first : Nat} {A : List Fa} {p : Nat × List UInt8} : p ∈ dirtyL first A ↔ ∃ (i : Nat) (x : Fa), A[i]? = some x ∧ x.dirty = true ∧ p = (first + x.page.toNat, x.b) := by
  unfold dirtyL
  rw [List.mem_filterMap]
  constructor
  · rintro ⟨x, hx, e⟩
    split at e
    · obtain ⟨i, hi, rfl⟩ := List.getElem_of_mem hx
      exact ⟨i, A[i], List.getElem?_eq_getElem hi, by assumption, (Option.some.inj e).symm⟩
    · cases e
  · rintro ⟨i, x, hi, hd, rfl⟩
    exact ⟨x, List.mem_of_getElem? hi, by rw [if_pos hd]⟩
theorem dirty_nodup {count n first : Nat} {A : List Fa} (hF : FOk count n A) (hdp : ∀ x ∈ A, x.dirty = true → 0 ≤ x.page) : ((dirtyL first A).map Prod.fst).Nodup := by
  have key : ∀ (A : List Fa), (∀ x ∈ A, x.dirty = true → 0 ≤ x.page) → (∀ (i j : Nat) (x y : Fa), A[i]? = some x → A[j]? = some y → x.page = y.page → 0 ≤ x.page → i = j) → ((dirtyL first A).map Prod.fst).Nodup := by
    intro A
    induction A with
    | nil => intro _ _; exact List.nodup_nil
    | cons a A ih =>
      intro h1 h2
      have ih' := ih (fun x hx => h1 x (List.mem_cons_of_mem _ hx)) (fun i j x y hi hj e h0 => by have := h2 (i + 1) (j + 1) x y (by simpa using hi) (by simpa using hj) e h0; omega)
      by_cases hd : a.dirty = true
      · have e : dirtyL first (a :: A) = (first + a.page.toNat, a.b) :: dirtyL first A := by simp [dirtyL, hd]
        rw [e, List.map_cons, List.nodup_cons]
        refine ⟨fun hm => ?_, ih'⟩
        obtain ⟨p, hp, e2⟩ := List.mem_map.1 hm
        obtain ⟨i, x, hi, hxd, rfl⟩ := dirty_mem.1 hp
        have h0 := h1 a (List.mem_cons_self ..) hd
        have h3 := h1 x (List.mem_cons_of_mem _ (List.mem_of_getElem? hi)) hxd
        have := h2 0 (i + 1) a x rfl (by simpa using hi) (by dsimp only at e2; omega) h0
        omega
      · have e : dirtyL first (a :: A) = dirtyL first A := by simp [dirtyL, hd]
        rw [e]; exact ih'
  exact key A hdp hF.one
theorem dirtyMark_bound {A : List Fa} (h : ∀ x ∈ A, x.mark < 2 ^ 63) : 0 ≤ dirtyMark A ∧ dirtyMark A < 2 ^ 63 := by
  unfold dirtyMark
  have : ∀ (A : List Fa) (m : Int), (∀ x ∈ A, x.mark < 2 ^ 63) → 0 ≤ m → m < 2 ^ 63 → 0 ≤ A.foldl (fun m x => if x.dirty = true then max m x.mark else m) m ∧ A.foldl (fun m x => if x.dirty = true then max m x.mark else m) m < 2 ^ 63 := by
    intro A
    induction A with
    | nil => intro m _ h1 h2; exact ⟨h1, h2⟩
    | cons a A ih =>
      intro m h h1 h2
      have ha := h a (List.mem_cons_self ..)
      rw [List.foldl_cons]
      refine ih _ (fun x hx => h x (List.mem_cons_of_mem _ hx)) ?_ ?_ <;> split <;> omega
  exact this A 0 h (by omega) (by omega)

/-! the changed frames, by number -/
instance finInh {n : Nat} [h : NeZero n] : Inhabited (Fin n) := ⟨⟨0, Nat.pos_of_ne_zero h.out⟩⟩
abbrev fpV (gf n : Nat) (i : Fin n) : Value := .pointer (some ⟨gf, 0 + i.1 * 6, none⟩)
theorem Bf.elemP : ElemOk Tryz.prog 136 99 1 8 := .mk' (.pointer none) Tryz.underlying136 (by kernel_rfl) rfl (by omega)
def isDirty (Fs : List Fm) (i : Nat) : Bool := match Fs[i]? with
  | some x => x.dirty
  | none => false
/-- The changed frames among the first k. -/
def dirN (n : Nat) (Fs : List Fm) (k : Nat) : List (Fin n) := (List.finRange n).filter fun i => decide (i.1 < k) && isDirty Fs i.1
theorem dirN_zero (n : Nat) (Fs : List Fm) : dirN n Fs 0 = [] := by unfold dirN; rw [List.filter_eq_nil_iff]; intro i _; simp
theorem fin_filter_succ (n : Nat) (p : Nat → Bool) (k : Nat) (hk : k < n) : (List.finRange n).filter (fun i => decide (i.1 < k + 1) && p i.1) = (List.finRange n).filter (fun i => decide (i.1 < k) && p i.1) ++ (if p k = true then [⟨k, hk⟩] else []) := by
  induction n with
  | zero => omega
  | succ n ih =>
    rw [List.finRange_succ_last]
    simp only [List.filter_append, List.filter_map, Function.comp_def, Fin.val_castSucc, List.filter_cons, List.filter_nil, Fin.val_last]
    by_cases hkn : k < n
    · rw [ih hkn]
      have h1 : (decide (n < k + 1) && p n) = false := by simp; omega
      have h2 : (decide (n < k) && p n) = false := by simp; omega
      simp only [h1, h2, Bool.false_eq_true, if_false, List.append_nil, List.map_append]
      congr 1
      split <;> rfl
    · obtain rfl : k = n := by omega
      have e : (List.finRange k).filter (fun i => decide (i.1 < k + 1) && p i.1) = (List.finRange k).filter (fun i => decide (i.1 < k) && p i.1) := by
        apply List.filter_congr
        intro i _
        have := i.2
        simp [this]; omega
      rw [e]
      have h1 : (decide (k < k + 1) && p k) = p k := by simp
      have h2 : (decide (k < k) && p k) = false := by simp
      simp only [h1, h2]
      cases p k <;> simp [Fin.last]
theorem dirN_succ {n : Nat} {Fs : List Fm} {k : Nat} (hk : k < n) {x : Fm} (hx : Fs[k]? = some x) : dirN n Fs (k + 1) = dirN n Fs k ++ (if x.dirty = true then [⟨k, hk⟩] else []) := by
  unfold dirN
  rw [fin_filter_succ n (isDirty Fs) k hk]
  simp [isDirty, hx]
theorem dirN_mem {n : Nat} {Fs : List Fm} {i : Fin n} (hn : Fs.length = n) : i ∈ dirN n Fs n ↔ ∃ x, Fs[i.1]? = some x ∧ x.dirty = true := by
  unfold dirN
  rw [List.mem_filter]
  have hi := i.2
  obtain ⟨x, hx⟩ : ∃ x, Fs[i.1]? = some x := ⟨_, List.getElem?_eq_getElem (by omega)⟩
  simp [isDirty, hx, hi]
theorem dirN_le (n : Nat) (Fs : List Fm) (k : Nat) : (dirN n Fs k).length ≤ n := by
  have := List.length_filter_le (fun i : Fin n => decide (i.1 < k) && isDirty Fs i.1) (List.finRange n)
  rwa [List.length_finRange] at this
/-- The frames, those of the list unchanged from now on. -/
def cleanF {n : Nat} (Fs : List Fm) (L : List (Fin n)) : List Fm := Fs.mapIdx fun j x => if L.any (fun i => decide (i.1 = j)) = true then { x with dirty := false } else x
theorem cleanF_at {n : Nat} {Fs : List Fm} (L : List (Fin n)) (j : Nat) : (cleanF Fs L)[j]? = (Fs[j]?).map fun x => if L.any (fun i => decide (i.1 = j)) = true then { x with dirty := false } else x := by
  unfold cleanF; rw [List.getElem?_mapIdx]
theorem cleanF_len {n : Nat} (Fs : List Fm) (L : List (Fin n)) : (cleanF Fs L).length = Fs.length := by unfold cleanF; simp
theorem cleanF_nil {n : Nat} (Fs : List Fm) : cleanF Fs ([] : List (Fin n)) = Fs := by
  apply List.ext_getElem?; intro j; rw [cleanF_at]; simp
theorem cleanF_snoc {n : Nat} {Fs : List Fm} (L : List (Fin n)) (i : Fin n) {x : Fm} (hx : (cleanF Fs L)[i.1]? = some x) : (cleanF Fs L).set i.1 { x with dirty := false } = cleanF Fs (L ++ [i]) := by
  apply List.ext_getElem?
  intro j
  have hlt := (List.getElem?_eq_some_iff.1 hx).1
  by_cases e : i.1 = j
  · subst e
    rw [List.getElem?_set_self hlt, cleanF_at]
    rw [cleanF_at] at hx
    cases hf : Fs[i.1]? with
    | none => rw [hf] at hx; cases hx
    | some y =>
      rw [hf] at hx
      simp only [Option.map_some, Option.some.injEq] at hx
      subst hx
      simp
      split <;> simp
  · rw [List.getElem?_set_ne e, cleanF_at, cleanF_at]
    cases Fs[j]? with
    | none => rfl
    | some y => simp [e]
theorem cleanF_da {n : Nat} (Fs : List Fm) (L : List (Fin n)) : daA (cleanF Fs L) = daA Fs := by
  unfold daA
  congr 1
  apply List.ext_getElem?
  intro j
  rw [List.getElem?_map, cleanF_at, List.getElem?_map, Option.map_map]
  cases Fs[j]? with
  | none => rfl
  | some y => simp only [Option.map_some, Function.comp_def]; split <;> rfl
theorem cleanF_all {n : Nat} {Fs : List Fm} (hn : Fs.length = n) (L : List (Fin n)) (hL : ∀ i : Fin n, (∃ x, Fs[i.1]? = some x ∧ x.dirty = true) → i ∈ L) : (cleanF Fs L).map Fm.a = cleanA (Fs.map Fm.a) := by
  apply List.ext_getElem?
  intro j
  unfold cleanA
  rw [List.getElem?_map, cleanF_at, List.getElem?_map, List.getElem?_map]
  cases h : Fs[j]? with
  | none => rfl
  | some y =>
    have hj : j < n := by rw [← hn]; exact (List.getElem?_eq_some_iff.1 h).1
    simp only [Option.map_some, Option.some.injEq]
    by_cases hd : y.dirty = true
    · have := hL ⟨j, hj⟩ ⟨y, h, hd⟩
      rw [if_pos (List.any_eq_true.2 ⟨_, this, by simp⟩)]
      rfl
    · split
      · rfl
      · simp only [Fm.a, Fa.mk.injEq, true_and, and_true]
        simpa using hd

set_option maxHeartbeats 1000000 in
theorem Bf.cmp (gf i j : Nat) (a b : Int) (W : World) (h1 : W.cell? ⟨gf, i, none⟩ = some (.int .i64 a)) (h2 : W.cell? ⟨gf, j, none⟩ = some (.int .i64 b)) (ha : -(2 ^ 62) ≤ a ∧ a < 2 ^ 62) (hb : -(2 ^ 62) ≤ b ∧ b < 2 ^ 62) :
    Calls Tryz.prog 56 #[.pointer (some ⟨gf, i, none⟩), .pointer (some ⟨gf, j, none⟩)] W fun e w' => e = .returned (.int .i64 (a - b)) ∧ ∃ q, w' = W.drewN q := by
  have hw : IntKind.i64.wrap (a - b) = a - b := wr64 (by omega) (by omega)
  go_enter Tryz.func56, Tryz.ntmps56
  go_wp2
  go_quiet (fail)
  go_wp2
  go_ret
  exact ⟨rfl, _, rfl⟩

theorem cell_of_cells {B : Base} {w : World} {g o : Nat} {l : List Assn} {C : List Value} {v : Value} (H : Own B w l) [k : CellsAt g l C] (hv : C[o]? = some v) : w.cell? ⟨g, o, none⟩ = some v := by
  obtain ⟨X, t, fr, h⟩ := H.cells (g := g)
  unfold World.cell?
  rw [h]
  have := (List.getElem?_eq_some_iff.1 hv).1
  simp [List.getElem?_append_left this, hv]
def pageF (n : Nat) (Fs : List Fm) (i : Fin n) : Int := match Fs[i.1]? with
  | some x => x.page
  | none => 0
theorem pageF_swo (n : Nat) (Fs : List Fm) : Go.Sort.SWO (ltOf fun i j : Fin n => pageF n Fs i - pageF n Fs j) where
  irrefl x := by simp [ltOf]
  trans x y z h1 h2 := by simp only [ltOf, decide_eq_true_eq] at *; omega
  ntrans x y z h1 h2 := by simp only [ltOf, decide_eq_false_iff_not] at *; omega
theorem Bf.sort (B : Base) (gf n : Nat) (Fs : List Fm) (hn : Fs.length = n) (h1 : 1 ≤ n) (hpg : ∀ (j : Nat) (x : Fm), Fs[j]? = some x → -(2 ^ 62) ≤ x.page ∧ x.page < 2 ^ 62) (v : Value) (ds : List (Fin n)) (m : Nat) (hm : ds.length = m) (hb : m < 2 ^ 61) :
    Fn Tryz.prog B 55 #[v, .func (.func 56) #[] #[]] [row v 99 1 m (ds.map (fpV gf n)), fmR gf n Fs] (fun u l => u = .tuple #[] ∧ ∃ ds' : List (Fin n), ds'.Perm ds ∧ l = [row v 99 1 m (ds'.map (fpV gf n)), fmR gf n Fs]) := by
  haveI : NeZero n := ⟨by omega⟩
  refine Fn.sort Tryz.sortF (fpV gf n) (fun _ => rfl) (fun i j : Fin n => pageF n Fs i - pageF n Fs j) (pageF_swo n Fs) 56 99 (enters_of Tryz.func56 (by kernel_rfl) rfl) v m ds hm hb [fmR gf n Fs] ?_ _ rfl
  intro i j W ho
  obtain ⟨x, hx⟩ : ∃ x, Fs[i.1]? = some x := ⟨_, List.getElem?_eq_getElem (by have := i.2; omega)⟩
  obtain ⟨y, hy⟩ : ∃ y, Fs[j.1]? = some y := ⟨_, List.getElem?_eq_getElem (by have := j.2; omega)⟩
  have e1 : pageF n Fs i = x.page := by simp [pageF, hx]
  have e2 : pageF n Fs j = y.page := by simp [pageF, hy]
  rw [e1, e2]
  exact Bf.cmp gf _ _ _ _ W (cell_of_cells ho (fm_at hx 0 (by omega))) (cell_of_cells ho (fm_at hy 0 (by omega))) (hpg _ _ hx) (hpg _ _ hy)
end Go.Proofs.YtegohgaccmkigaaGreatDoor

/- The package buffer: Flush over a pool as a whole. Conditions: sizes; the frames are in order. -/
set_option linter.unusedSimpArgs false
set_option linter.unusedVariables false
namespace Go.Proofs.YtegohgaccmkigaaGreatDoor
open Go.RowKit

/-- What is written for the changed frames of a list. -/
def wrL {n : Nat} (first : Nat) (Fs : List Fm) (L : List (Fin n)) : List (Nat × List UInt8) := L.filterMap fun i => (Fs[i.1]?).map fun x => (first + x.page.toNat, x.b)
theorem wrL_snoc {n first : Nat} {Fs : List Fm} (L : List (Fin n)) (i : Fin n) {x : Fm} (hx : Fs[i.1]? = some x) : wrL first Fs (L ++ [i]) = wrL first Fs L ++ [(first + x.page.toNat, x.b)] := by
  simp [wrL, List.filterMap_append, hx]
theorem writesP_snoc : ∀ (L : List (Nat × List UInt8)) (D : DD) (p : Nat × List UInt8), writesP D (L ++ [p]) = (writesP D L).write p.1 p.2
  | [], _, _ => rfl
  | q :: L, D, p => by rw [List.cons_append, writesP, writesP, writesP_snoc L]
theorem mark_snoc {A : List Fa} {k : Nat} {x : Fa} (hx : A[k]? = some x) : dirtyMark (A.take (k + 1)) = if x.dirty = true then max (dirtyMark (A.take k)) x.mark else dirtyMark (A.take k) := by
  unfold dirtyMark
  rw [List.take_add_one, hx, List.foldl_append]
  rfl

theorem fr_or {count n : Nat} {A : List Fa} (hF : FOk count n A) {j : Nat} {y : Fa} (hy : A[j]? = some y) : -1 ≤ y.page ∧ y.page ≤ count := by
  rcases hF.fr y (List.mem_of_getElem? hy) with rfl | h
  · exact ⟨by decide, by show (-1 : Int) ≤ count; omega⟩
  · omega
theorem wr_len {n : Nat} (first : Nat) (Fs : List Fm) (L : List (Fin n)) : (wrL first Fs L).length ≤ L.length := List.length_filterMap_le _ _
theorem wr_at {n first : Nat} {Fs : List Fm} {L : List (Fin n)} {q : Nat × List UInt8} : q ∈ wrL first Fs L ↔ ∃ i ∈ L, ∃ x, Fs[i.1]? = some x ∧ q = (first + x.page.toNat, x.b) := by
  unfold wrL
  rw [List.mem_filterMap]
  constructor
  · rintro ⟨i, hi, e⟩
    cases h : Fs[i.1]? with
    | none => rw [h] at e; cases e
    | some x => rw [h] at e; exact ⟨i, hi, x, h, (Option.some.inj e).symm⟩
  · rintro ⟨i, hi, x, h, rfl⟩
    exact ⟨i, hi, by rw [h]; rfl⟩
theorem wr_ok {n first count N : Nat} {Fs : List Fm} {ds : List (Fin n)} {k : Nat} {q : Nat × List UInt8} (hmem : ∀ i : Fin n, i ∈ ds → ∃ x, Fs[i.1]? = some x ∧ x.dirty = true) (hfr : ∀ (j : Nat) (x : Fm), Fs[j]? = some x → x.dirty = true → 0 ≤ x.page ∧ x.page < count ∧ x.b.length = 256) (hN : first + count ≤ N) (hq : q ∈ wrL first Fs (ds.take k)) : q.1 < N ∧ q.2.length = 256 := by
  obtain ⟨i, hi, x, hx, rfl⟩ := wr_at.1 hq
  obtain ⟨y, hy, hd⟩ := hmem i (List.mem_of_mem_take hi)
  rw [hx] at hy
  cases hy
  have := hfr _ _ hx hd
  exact ⟨by dsimp only; omega, this.2.2⟩
theorem dirN_nodup (n : Nat) (Fs : List Fm) (k : Nat) : (dirN n Fs k).Nodup := (List.nodup_finRange n).filter _
theorem wr_nodup {n first count : Nat} {Fs : List Fm} {A : List Fa} {ds : List (Fin n)} (hA : Fs.map Fm.a = A) (hF : FOk count n A) (hfr : ∀ (j : Nat) (x : Fm), Fs[j]? = some x → x.dirty = true → 0 ≤ x.page ∧ x.page < count ∧ x.b.length = 256) (hmem : ∀ i : Fin n, i ∈ ds → ∃ x, Fs[i.1]? = some x ∧ x.dirty = true) (hd : ds.Nodup) : ((wrL first Fs ds).map Prod.fst).Nodup := by
  induction ds with
  | nil => exact List.nodup_nil
  | cons i ds ih =>
    have ih' := ih (fun j hj => hmem j (List.mem_cons_of_mem _ hj)) (List.nodup_cons.1 hd).2
    obtain ⟨x, hx, hxd⟩ := hmem i (List.mem_cons_self ..)
    have e : wrL first Fs (i :: ds) = (first + x.page.toNat, x.b) :: wrL first Fs ds := by simp [wrL, hx]
    rw [e, List.map_cons, List.nodup_cons]
    refine ⟨fun hm => ?_, ih'⟩
    obtain ⟨q, hq, e2⟩ := List.mem_map.1 hm
    obtain ⟨j, hj, y, hy, rfl⟩ := wr_at.1 hq
    obtain ⟨y', hy', hyd⟩ := hmem j (List.mem_cons_of_mem _ hj)
    rw [hy] at hy'
    cases hy'
    have h1 := hfr _ _ hx hxd
    have h2 := hfr _ _ hy hyd
    have := hF.one i.1 j.1 x.a y.a (map_a_at hA hx) (map_a_at hA hy) (by show x.page = y.page; dsimp only at e2; omega) h1.1
    exact (List.nodup_cons.1 hd).1 (by rw [Fin.ext this]; exact hj)
theorem wr_mem {n first : Nat} {Fs : List Fm} {A : List Fa} {ds : List (Fin n)} (hA : Fs.map Fm.a = A) (hn : Fs.length = n) (hds : ds.Perm (dirN n Fs n)) (q : Nat × List UInt8) : q ∈ wrL first Fs ds ↔ q ∈ dirtyL first A := by
  rw [wr_at, dirty_mem]
  constructor
  · rintro ⟨i, hi, x, hx, rfl⟩
    obtain ⟨y, hy, hd⟩ := (dirN_mem hn).1 (hds.mem_iff.1 hi)
    rw [hx] at hy
    cases hy
    exact ⟨i.1, x.a, map_a_at hA hx, hd, rfl⟩
  · rintro ⟨i, x, hx, hd, rfl⟩
    obtain ⟨z, hz, rfl⟩ := map_a_back hA hx
    have hi : i < n := by rw [← hn]; exact (List.getElem?_eq_some_iff.1 hz).1
    exact ⟨⟨i, hi⟩, hds.mem_iff.2 ((dirN_mem hn).2 ⟨z, hz, hd⟩), z, hz, rfl⟩
theorem cleanF_same {n : Nat} {Fs : List Fm} (L : List (Fin n)) {j : Nat} {x : Fm} (hx : Fs[j]? = some x) : ∃ y, (cleanF Fs L)[j]? = some y ∧ y.page = x.page ∧ y.p = x.p ∧ y.c = x.c ∧ y.b = x.b := by
  rw [cleanF_at, hx]
  exact ⟨_, rfl, by split <;> rfl, by split <;> rfl, by split <;> rfl, by split <;> rfl⟩

set_option maxHeartbeats 8000000 in
set_option maxRecDepth 100000 in
theorem Bf.flush (B : Base) (g b gf n first count hand : Nat) (gp cl gl : Nat) (W : Wl) (D : DD) (Fs : List Fm) (A : List Fa) (hA : Fs.map Fm.a = A) (hF : FOk count n A) (hdp : ∀ x ∈ A, x.dirty = true → 0 ≤ x.page)
  (hpt : ∀ (i : Nat) (x : Fm), Fs[i]? = some x → 0 < x.b.length → ∃ g, x.p = some ⟨g, 0, none⟩) (hw : WOk W D) (ho : D.Ok) (hsec : first + count ≤ D.secs.length) :
  Fn Tryz.prog B 34 #[.pointer (some ⟨g, 0, none⟩)] [poolB g b gf n first count hand (some ⟨gp, 0, none⟩) 1 cl, fmR gf n Fs, lgR (some ⟨gp, 0, none⟩) 1 cl [ifW gl], wlA gl b W, dskA b D, daA Fs]
   (fun u l => ∃ (Fs' : List Fm) (W' : Wl) (D' : DD), Fs'.map Fm.a = cleanA A ∧ u = .tuple #[] ∧ W' = (forceP W D (dirtyMark A)).1 ∧ D' = (writesP (forceP W D (dirtyMark A)).2 (dirtyL first A)).sync ∧ l = [poolB g b gf n first count hand (some ⟨gp, 0, none⟩) 1 cl, fmR gf n Fs', lgR (some ⟨gp, 0, none⟩) 1 cl [ifW gl], wlA gl b W', dskA b D', daA Fs']) := by
 have hn : Fs.length = n := by rw [← hF.len, ← hA, List.length_map]
 have hn1 := hF.n1
 have hn2 := hF.n2
 have hmb := dirtyMark_bound (A := A) fun x hx => (hF.mrk x hx).2
 have hfr : ∀ (j : Nat) (x : Fm), Fs[j]? = some x → x.dirty = true → 0 ≤ x.page ∧ x.page < count ∧ x.b.length = 256 := fun j x hx hd => by
  have h1 := map_a_at hA hx
  have := fr_ok hF h1 (hdp _ (List.mem_of_getElem? h1) hd)
  exact ⟨this.1, this.2.1, this.2.2.1⟩
 refine Fn.enter1 78 Tryz.func34 rfl rfl (Nat.le_of_ble_eq_true rfl) (fun F => ?_)
 try simp only [List.cons_append, List.nil_append]
 refine T.seq ?_
 refine T.region ?_
 refine LW.q rfl (Qt.assign rfl) ?_
 refine LW.done ?_
 refine T.seq ?_
 refine T.region ?_
 refine LW.q rfl (Qt.assign rfl) ?_
 refine LW.done ?_
 refine T.seq ?_
 refine T.seq ?_
 refine T.region ?_
 refine LW.q rfl (Qt.move rfl) ?_
 refine LW.q rfl (Qt.nilCheck rfl) ?_
 refine LW.q rfl (Qt.fieldAddr (off := 3) (by kernel_rfl) rfl) ?_
 first | refine LW.q rfl (Qt.load (by kernel_rfl) rfl rfl) ?_ | refine LW.q rfl (Qt.load (by kernel_rfl) rfl (map_at _ _ _ (by omega))) ?_ | refine LW.q rfl (Qt.load (by kernel_rfl) rfl (flat_cell0 _ _ _ (by intros; rfl) _ (by omega) (by rfl))) ?_ | refine LW.q rfl (Qt.load (by kernel_rfl) rfl (flat_cell _ _ _ (by intros; rfl) _ _ (by omega) (by rfl))) ?_ | refine LW.q rfl (Qt.load (by kernel_rfl) rfl (bytes_at _ _ (by omega))) ?_
 refine LW.q rfl (Qt.len (e := 103) (sz := 6) (by kernel_rfl) rfl) ?_
 refine LW.q rfl (Qt.move rfl) ?_
 refine LW.done ?_
 refine T.block ?_
 refine T.conv (l' := row (.slice none 0 0) 99 1 0 ((dirN n Fs 0).map (fpV gf n)) :: poolB g b gf n first count hand (some ⟨gp, 0, none⟩) 1 cl :: fmR gf n Fs :: lgR (some ⟨gp, 0, none⟩) 1 cl [ifW gl] :: wlA gl b W :: dskA b D :: daA Fs :: F) (fun w ho => by rw [dirN_zero]; exact ho.row_nil _ _) ?_
 refine T.loop (fun mz fz lz => ∃ (f0 : Fr) (k : Nat) (p : Option Addr) (m c : Nat) (mk : Int), (k ≤ n ∧ m = (dirN n Fs k).length ∧ mk = dirtyMark (A.take k)) ∧ mz = n - k ∧ fz = (upd (upd (upd (upd (upd f0 0 (.pointer (some ⟨g, 0, none⟩))) 2 (.slice p m c)) 3 (.int .i64 mk)) 12 (.int .i64 n)) 13 (.int .i64 k)) ∧ lz = row (.slice p m c) 99 1 m ((dirN n Fs k).map (fpV gf n)) :: poolB g b gf n first count hand (some ⟨gp, 0, none⟩) 1 cl :: fmR gf n Fs :: lgR (some ⟨gp, 0, none⟩) 1 cl [ifW gl] :: wlA gl b W :: dskA b D :: daA Fs :: F) ?_ ?_
 · refine ⟨_, _, ⟨_, 0, none, 0, 0, 0, ⟨Nat.zero_le _, by rw [dirN_zero]; rfl, rfl⟩, rfl, (updS rfl (updS rfl (updS rfl (updS rfl (updS rfl rfl))))), rfl⟩, Sub.any⟩
 ·
  rintro mz fz lz ⟨f0, k, p, m, c, mk, ⟨hk, hm, hmk⟩, hmz, rfl, rfl⟩
  subst mz
  try simp only [List.cons_append, List.nil_append]
  refine T.seq ?_
  refine T.region ?_
  refine LW.q rfl (Qt.lss rfl rfl) ?_
  refine LW.done ?_
  refine T.seq ?_
  refine T.condP rfl (fun hlt => ?_) (fun hlt => ?_)
  ·
   have hlt' : k < n := by omega
   obtain ⟨y, hy⟩ : ∃ y, Fs[k]? = some y := ⟨_, List.getElem?_eq_getElem (by omega)⟩
   have hyA := map_a_at hA hy
   have hym := hF.mrk _ (List.mem_of_getElem? hyA)
   have hmb2 := dirtyMark_bound (A := A.take k) fun x hx => (hF.mrk x (List.mem_of_mem_take hx)).2
   have hdl := dirN_le n Fs k
   refine T.skip ?_
   refine T.seq ?_
   refine T.block ?_
   refine T.seq ?_
   refine T.region ?_
   refine LW.q rfl (Qt.move rfl) ?_
   refine LW.q rfl (Qt.assign rfl) ?_
   refine LW.done ?_
   refine T.seq ?_
   refine T.region ?_
   refine LW.q rfl (Qt.move rfl) ?_
   refine LW.q rfl (Qt.nilCheck rfl) ?_
   refine LW.q rfl (Qt.fieldAddr (off := 3) (by kernel_rfl) rfl) ?_
   first | refine LW.q rfl (Qt.load (by kernel_rfl) rfl rfl) ?_ | refine LW.q rfl (Qt.load (by kernel_rfl) rfl (map_at _ _ _ (by omega))) ?_ | refine LW.q rfl (Qt.load (by kernel_rfl) rfl (flat_cell0 _ _ _ (by intros; rfl) _ (by omega) (by rfl))) ?_ | refine LW.q rfl (Qt.load (by kernel_rfl) rfl (flat_cell _ _ _ (by intros; rfl) _ _ (by omega) (by rfl))) ?_ | refine LW.q rfl (Qt.load (by kernel_rfl) rfl (bytes_at _ _ (by omega))) ?_
   refine LW.q rfl (Qt.move rfl) ?_
   refine LW.q rfl (Qt.index _ (e := 103) (sz := 6) (by kernel_rfl) rfl rfl rfl (by omega)) ?_
   refine LW.q rfl (Qt.assign rfl) ?_
   refine LW.done ?_
   refine T.seq ?_
   refine T.region ?_
   refine LW.q rfl (Qt.move rfl) ?_
   refine LW.q rfl (Qt.nilCheck rfl) ?_
   refine LW.q rfl (Qt.fieldAddr (off := 4) (by kernel_rfl) rfl) ?_
   refine LW.q rfl (Qt.load (v := .bool y.dirty) (by kernel_rfl) rfl (fm_at hy 4 (by omega))) ?_
   refine LW.done ?_
   refine T.cond rfl (fun hd => ?_) (fun hd => ?_)
   ·
    refine T.seq ?_
    refine T.region ?_
    refine LW.q rfl (Qt.move rfl) ?_
    refine LW.q rfl (Qt.move rfl) ?_
    refine LW.e rfl (Ef.one [_] (e := 99) (sz := 1) (by kernel_rfl) ⟨.pointer none, by kernel_rfl, rfl⟩ rfl rfl rfl (by omega) (by omega) ?_)
    intro g28
    refine LW.e rfl (Ef.append Bf.elemP rfl rfl (SrcOf.blk (by kernel_rfl) rfl (by simp [Value.oneCell'])) (by unfold maxLen; omega) (by omega) ?_)
    rintro p2 c2 hp2
    try simp only [List.cons_append, List.nil_append]
    rw [show (dirN n Fs k).map (fpV gf n) ++ [Value.pointer (some ⟨gf, 0 + k * 6, none⟩)] = (dirN n Fs (k + 1)).map (fpV gf n) by rw [dirN_succ hlt' hy, if_pos hd, List.map_append]; rfl]
    refine LW.q rfl (Qt.assign rfl) ?_
    refine LW.done ?_
    refine T.region ?_
    refine LW.q rfl (Qt.move rfl) ?_
    refine LW.q rfl (Qt.move rfl) ?_
    refine LW.q rfl (Qt.nilCheck rfl) ?_
    refine LW.q rfl (Qt.fieldAddr (off := 2) (by kernel_rfl) rfl) ?_
    refine LW.q rfl (Qt.load (v := .int .i64 y.mark) (by kernel_rfl) rfl (fm_at hy 2 (by omega))) ?_
    refine LW.q rfl (Qt.max rfl rfl) ?_
    refine LW.q rfl (Qt.assign rfl) ?_
    refine LW.done ?_
    refine T.region ?_
    refine LW.q rfl (Qt.add rfl rfl (wr64 (by omega) (by omega))) ?_
    refine LW.q rfl (Qt.move rfl) ?_
    refine LW.done ?_
    refine ⟨_, ?_, _, ⟨_, k + 1, p2, m + 1, c2, max mk y.mark, ⟨by omega, by rw [dirN_succ hlt' hy, if_pos hd, List.length_append, hm]; rfl, by rw [mark_snoc hyA, if_pos (show y.a.dirty = true from hd), hmk]; rfl⟩, rfl, (updS rfl (updS rfl (updS rfl (updS rfl (updS rfl rfl))))), rfl⟩, Sub.any⟩
    first | omega | (simp; omega)
   ·
    have hd2 : ¬ y.dirty = true := by rw [hd]; simp
    refine T.skip ?_
    refine T.region ?_
    refine LW.q rfl (Qt.add rfl rfl (wr64 (by omega) (by omega))) ?_
    refine LW.q rfl (Qt.move rfl) ?_
    refine LW.done ?_
    refine ⟨_, ?_, _, ⟨_, k + 1, p, m, c, mk, ⟨by omega, by rw [dirN_succ hlt' hy, if_neg hd2, List.append_nil]; exact hm, by rw [mark_snoc hyA, if_neg (show ¬ y.a.dirty = true from hd2)]; exact hmk⟩, rfl, (updS rfl (updS rfl (updS rfl (updS rfl (updS rfl rfl))))), rfl⟩, (by rw [dirN_succ hlt' hy, if_neg hd2, List.append_nil]; exact Sub.any)⟩
    first | omega | (simp; omega)
  ·
   obtain rfl : n = k := by omega
   have hAt : A.take n = A := by rw [← hF.len, List.take_length]
   rw [hAt] at hmk
   subst hmk
   have hdl := dirN_le n Fs n
   refine T.exit ?_
   refine T.seq ?_
   refine T.region ?_
   refine LW.q rfl (Qt.move rfl) ?_
   refine LW.e rfl (Ef.call (Bf.sort B gf n Fs hn hn1 (fun j x hx => by have h := fr_or hF (map_a_at hA hx); exact ⟨by have := h.1; show -(2 ^ 62) ≤ x.a.page; omega, by have := h.2; show x.a.page < 2 ^ 62; have := ho.max; omega⟩) (.slice p m c) (dirN n Fs n) m hm.symm (by omega)) Tryz.func55 rfl rfl rfl ?_)
   rintro _ _ ⟨rfl, ds, hds, rfl⟩
   try simp only [List.cons_append, List.nil_append]
   refine LW.done ?_
   refine T.seq ?_
   refine T.region ?_
   refine LW.q rfl (Qt.move rfl) ?_
   refine LW.q rfl (Qt.move rfl) ?_
   have hdn : ds.length = m := by rw [hds.length_eq, hm]
   obtain ⟨f1, f2, f3, f4, f5, f6, f7⟩ := hw.force ho (dirtyMark A) hw.room
   refine LW.e rfl (Ef.call (Bp.force B g b gf n first count hand gp cl gl W D (dirtyMark A) hw) Tryz.func57 rfl rfl rfl ?_)
   rintro _ _ ⟨rfl, rfl⟩
   try simp only [List.cons_append, List.nil_append]
   refine LW.done ?_
   refine T.seq ?_
   refine T.seq ?_
   refine T.region ?_
   refine LW.q rfl (Qt.move rfl) ?_
   refine LW.q rfl (Qt.len (e := 99) (sz := 1) (by kernel_rfl) rfl) ?_
   refine LW.q rfl (Qt.move rfl) ?_
   refine LW.done ?_
   refine T.block ?_
   obtain ⟨W2, hW2⟩ : ∃ W2, (forceP W D (dirtyMark A)).1 = W2 := ⟨_, rfl⟩
   obtain ⟨D2, hD2⟩ : ∃ D2, (forceP W D (dirtyMark A)).2 = D2 := ⟨_, rfl⟩
   rw [hW2, hD2] at f1
   rw [hD2] at f2 f3 f4
   rw [hW2, hD2]
   have hmem : ∀ i : Fin n, i ∈ ds → ∃ x, Fs[i.1]? = some x ∧ x.dirty = true := fun i hi => (dirN_mem hn).1 (hds.mem_iff.1 hi)
   have hwr : ∀ (k : Nat) (q : Nat × List UInt8), q ∈ wrL first Fs (ds.take k) → q.1 < D2.secs.length ∧ q.2.length = 256 := fun k q hq => wr_ok hmem hfr (by omega) hq
   rw [show fmR gf n Fs = fmR gf n (cleanF Fs (ds.take 0)) by rw [List.take_zero, cleanF_nil], show dskA b D2 = dskA b (writesP D2 (wrL first Fs (ds.take 0))) from rfl]
   refine T.loop (fun mz fz lz => ∃ (f0 : Fr) (k : Nat), (k ≤ m) ∧ mz = m - k ∧ fz = (upd (upd (upd (upd f0 0 (.pointer (some ⟨g, 0, none⟩))) 42 (.slice p m c)) 43 (.int .i64 m)) 44 (.int .i64 k)) ∧ lz = row (.slice p m c) 99 1 m (ds.map (fpV gf n)) :: poolB g b gf n first count hand (some ⟨gp, 0, none⟩) 1 cl :: fmR gf n (cleanF Fs (ds.take k)) :: lgR (some ⟨gp, 0, none⟩) 1 cl [ifW gl] :: wlA gl b W2 :: dskA b (writesP D2 (wrL first Fs (ds.take k))) :: daA Fs :: F) ?_ ?_
   · refine ⟨_, _, ⟨_, 0, Nat.zero_le _, rfl, (updS rfl (updS rfl (updS rfl (updS rfl rfl)))), rfl⟩, Sub.any⟩
   ·
    rintro mz fz lz ⟨f0, k, hk2, hmz, rfl, rfl⟩
    subst mz
    try simp only [List.cons_append, List.nil_append]
    refine T.seq ?_
    refine T.region ?_
    refine LW.q rfl (Qt.lss rfl rfl) ?_
    refine LW.done ?_
    refine T.seq ?_
    refine T.condP rfl (fun hlt2 => ?_) (fun hlt2 => ?_)
    ·
     refine T.own (fun w ho => ?_)
     obtain ⟨gd, rfl⟩ : ∃ gd, p = some ⟨gd, 0, none⟩ := (ho.slice_at (p := p) (m := m) (c := c)).2.1 (by omega)
     clear ho
     obtain ⟨i, hi⟩ : ∃ i, ds[k]? = some i := ⟨_, List.getElem?_eq_getElem (by omega)⟩
     obtain ⟨x, hx, hxd⟩ := hmem i (List.mem_of_getElem? hi)
     obtain ⟨x1, x2, x3⟩ := hfr _ _ hx hxd
     obtain ⟨gx, hgx⟩ := hpt _ _ hx (by omega)
     obtain ⟨y, hy, y1, y2, y3, y4⟩ := cleanF_same (ds.take k) hx
     obtain ⟨w1, w2, w3⟩ := writes_ok f2 (hwr k)
     have hcl : (cleanF Fs (ds.take k)).length = n := by rw [cleanF_len]; exact hn
     have hil := i.2
     have hfl := fm_len (cleanF Fs (ds.take k))
     have hwk := wr_len first Fs (ds.take k)
     have htk : (ds.take k).length ≤ 4096 := by rw [List.length_take]; omega
     have hwroom := f1.room
     have hwmx := f1.max
     refine T.skip ?_
     refine T.seq ?_
     refine T.block ?_
     refine T.seq ?_
     refine T.region ?_
     refine LW.q rfl (Qt.index _ (e := 99) (sz := 1) (by kernel_rfl) rfl rfl rfl (by omega)) ?_
     refine LW.q rfl (Qt.load (v := fpV gf n i) (by kernel_rfl) rfl (by rw [List.getElem?_map, show 0 + k * 1 = k by omega, hi]; rfl)) ?_
     refine LW.q rfl (Qt.assign rfl) ?_
     refine LW.done ?_
     refine T.seq ?_
     refine T.draw 20 ([poolB g b gf n first count hand (some ⟨gp, 0, none⟩) 1 cl, fmR gf n (cleanF Fs (ds.take k))]) (by kernel_rfl) (Nat.le_of_ble_eq_true rfl) (by kernel_rfl) ?_
     refine RW.q 0 rfl rfl (by kernel_rfl) Sub.any (Qt.move rfl) ?_
     refine RW.q 1 rfl rfl (by kernel_rfl) Sub.any (Qt.nilCheck rfl) ?_
     refine RW.q 2 rfl rfl (by kernel_rfl) Sub.any (Qt.fieldAddr0 (by kernel_rfl) rfl) ?_
     refine RW.q 3 rfl rfl (by kernel_rfl) Sub.any (Qt.fieldAddr0 (by kernel_rfl) rfl) ?_
     first | refine RW.q 4 rfl rfl (by kernel_rfl) Sub.any (Qt.load (by kernel_rfl) rfl rfl) ?_ | refine RW.q 4 rfl rfl (by kernel_rfl) Sub.any (Qt.load (by kernel_rfl) rfl (map_at _ _ _ (by omega))) ?_ | refine RW.q 4 rfl rfl (by kernel_rfl) Sub.any (Qt.load (by kernel_rfl) rfl (flat_cell0 _ _ _ (by intros; rfl) _ (by omega) (by rfl))) ?_ | refine RW.q 4 rfl rfl (by kernel_rfl) Sub.any (Qt.load (by kernel_rfl) rfl (flat_cell _ _ _ (by intros; rfl) _ _ (by omega) (by rfl))) ?_ | refine RW.q 4 rfl rfl (by kernel_rfl) Sub.any (Qt.load (by kernel_rfl) rfl (bytes_at _ _ (by omega))) ?_
     refine RW.q 5 rfl rfl (by kernel_rfl) Sub.any (Qt.move rfl) ?_
     refine RW.q 6 rfl rfl (by kernel_rfl) Sub.any (Qt.nilCheck rfl) ?_
     refine RW.q 7 rfl rfl (by kernel_rfl) Sub.any (Qt.fieldAddr0 (by kernel_rfl) rfl) ?_
     refine RW.q 8 rfl rfl (by kernel_rfl) Sub.any (Qt.fieldAddr (off := 1) (by kernel_rfl) rfl) ?_
     first | refine RW.q 9 rfl rfl (by kernel_rfl) Sub.any (Qt.load (by kernel_rfl) rfl rfl) ?_ | refine RW.q 9 rfl rfl (by kernel_rfl) Sub.any (Qt.load (by kernel_rfl) rfl (map_at _ _ _ (by omega))) ?_ | refine RW.q 9 rfl rfl (by kernel_rfl) Sub.any (Qt.load (by kernel_rfl) rfl (flat_cell0 _ _ _ (by intros; rfl) _ (by omega) (by rfl))) ?_ | refine RW.q 9 rfl rfl (by kernel_rfl) Sub.any (Qt.load (by kernel_rfl) rfl (flat_cell _ _ _ (by intros; rfl) _ _ (by omega) (by rfl))) ?_ | refine RW.q 9 rfl rfl (by kernel_rfl) Sub.any (Qt.load (by kernel_rfl) rfl (bytes_at _ _ (by omega))) ?_
     refine RW.q 10 rfl rfl (by kernel_rfl) Sub.any (Qt.move rfl) ?_
     refine RW.q 11 rfl rfl (by kernel_rfl) Sub.any (Qt.nilCheck rfl) ?_
     refine RW.q 12 rfl rfl (by kernel_rfl) Sub.any (Qt.fieldAddr0 (by kernel_rfl) rfl) ?_
     refine RW.q 13 rfl rfl (by kernel_rfl) Sub.any (Qt.load (v := .int .i64 x.page) (by kernel_rfl) rfl (by have := fm_at hy 0 (by omega); rw [Nat.add_zero] at this; rw [this]; simp [y1])) ?_
     refine RW.q 14 rfl rfl (by kernel_rfl) Sub.any (Qt.add rfl rfl (wr64 (by omega) (by omega))) ?_
     refine RW.q 15 rfl rfl (by kernel_rfl) Sub.any (Qt.move rfl) ?_
     refine RW.q 16 rfl rfl (by kernel_rfl) Sub.any (Qt.nilCheck rfl) ?_
     refine RW.q 17 rfl rfl (by kernel_rfl) Sub.any (Qt.fieldAddr (off := 1) (by kernel_rfl) rfl) ?_
     refine RW.q 18 rfl rfl (by kernel_rfl) Sub.any (Qt.load (v := .slice (some ⟨gx, 0, none⟩) 256 x.c) (by kernel_rfl) rfl (by rw [fm_at hy 1 (by omega)]; simp [y2, y3, y4, hgx, x3])) ?_
     refine RW.one 19 (by kernel_rfl) ?_
     refine RO.eS rfl rfl (Ef.call (Dk.writeF B b (writesP D2 (wrL first Fs (ds.take k))) (daA Fs) gx 0 x.c (first + x.page.toNat) _ (by omega) x.b (fun h H => daA_cells hx hgx (by omega) h H) (by omega) x3 (by omega)) Tryz.func58 rfl rfl rfl ?_)
     rintro _ _ ⟨rfl, rfl⟩
     try simp only [List.cons_append, List.nil_append]
     refine ⟨Sub.any, ?_⟩
     refine RW.done (by rfl) ?_
     simp only [List.drop_succ_cons, List.drop_zero, List.drop_nil]
     refine LW.done ?_
     refine T.region ?_
     refine LW.q rfl (Qt.move rfl) ?_
     refine LW.q rfl (Qt.nilCheck rfl) ?_
     refine LW.q rfl (Qt.fieldAddr (off := 4) (by kernel_rfl) rfl) ?_
     refine LW.e0 rfl (Ef.store1 (by kernel_rfl) rfl rfl rfl (by omega) ?_)
     rw [fm_set (y := { y with dirty := false }) hy 4 (by omega) _ rfl, cleanF_snoc (ds.take k) i hy, ← writesP_snoc (wrL first Fs (ds.take k)) D2 (first + x.page.toNat, x.b), ← wrL_snoc (ds.take k) i hx, ← show ds.take (k + 1) = ds.take k ++ [i] by rw [List.take_add_one, hi]; rfl]
     refine LW.done ?_
     refine T.region ?_
     refine LW.q rfl (Qt.add rfl rfl (wr64 (by omega) (by omega))) ?_
     refine LW.q rfl (Qt.move rfl) ?_
     refine LW.done ?_
     refine ⟨_, ?_, _, ⟨_, k + 1, by omega, rfl, (updS rfl (updS rfl (updS rfl (updS rfl rfl)))), rfl⟩, Sub.any⟩
     first | omega | (simp; omega)
    ·
     obtain rfl : m = k := by omega
     have htk : ds.take m = ds := by rw [← hdn, List.take_length]
     rw [htk]
     have hww := hwr m
     rw [htk] at hww
     obtain ⟨w1, w2, w3⟩ := writes_ok f2 hww
     have hwroom := f1.room
     have hwk := wr_len first Fs ds
     refine T.exit ?_
     refine T.region ?_
     refine LW.q rfl (Qt.move rfl) ?_
     refine LW.q rfl (Qt.nilCheck rfl) ?_
     refine LW.q rfl (Qt.fieldAddr0 (by kernel_rfl) rfl) ?_
     refine LW.q rfl (Qt.fieldAddr0 (by kernel_rfl) rfl) ?_
     first | refine LW.q rfl (Qt.load (by kernel_rfl) rfl rfl) ?_ | refine LW.q rfl (Qt.load (by kernel_rfl) rfl (map_at _ _ _ (by omega))) ?_ | refine LW.q rfl (Qt.load (by kernel_rfl) rfl (flat_cell0 _ _ _ (by intros; rfl) _ (by omega) (by rfl))) ?_ | refine LW.q rfl (Qt.load (by kernel_rfl) rfl (flat_cell _ _ _ (by intros; rfl) _ _ (by omega) (by rfl))) ?_ | refine LW.q rfl (Qt.load (by kernel_rfl) rfl (bytes_at _ _ (by omega))) ?_
     refine LW.e rfl (Ef.call (Dk.syncF B b (writesP D2 (wrL first Fs ds)) (by omega)) Tryz.func59 rfl rfl rfl ?_)
     rintro _ _ ⟨rfl, rfl⟩
     try simp only [List.cons_append, List.nil_append]
     refine LW.done ?_
     exact ⟨.inr rfl, _, _, res [] rfl trivial, ⟨cleanF Fs ds, _, _, by rw [cleanF_all hn ds (fun i hi => hds.mem_iff.2 ((dirN_mem hn).2 hi)), hA], rfl, rfl, writes_sync f2 hww (wr_nodup hA hF hfr hmem (hds.nodup_iff.2 (dirN_nodup n Fs n))) (dirty_nodup hF hdp) (wr_mem hA hn hds), by rw [cleanF_da]⟩, Sub.any⟩
end Go.Proofs.YtegohgaccmkigaaGreatDoor
