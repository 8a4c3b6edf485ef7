/- The package buffer: Pin, Unpin, Bytes, Put over a pool as a whole. Conditions: sizes; the frames are in order. -/
import Derived.Test.YtegohgaccmkigaaDoorBgC
set_option linter.unusedSimpArgs false
set_option linter.unusedVariables false
namespace Go.Proofs.YtegohgaccmkigaaDoor
open Go.RowKit

set_option maxHeartbeats 2000000 in
set_option maxRecDepth 100000 in
theorem Bf.pin_found (B : Base) (g b gf n first count hand : Nat) (pl : Option Addr) (nl cl : Nat) (Fs : List Fm) (page : Int) (h0 : 0 ≤ page) (hc : page < count) (i : Nat) (x : Fm) (hn : Fs.length = n) (hn2 : n ≤ 4096) (hx : Fd Fs page i x) (hpin : 0 ≤ x.pins) (hpin2 : x.pins < 2 ^ 62) :
    Fn Tryd.prog B 15 #[.pointer (some ⟨g, 0, none⟩), .int .i64 page] [poolB g b gf n first count hand pl nl cl, fmR gf n Fs] (fun u l => u = .int .i64 0 ∧ l = [poolB g b gf n first count hand pl nl cl, fmR gf n (Fs.set i { x with pins := x.pins + 1, used := true })]) := by
  have hi : i < Fs.length := (List.getElem?_eq_some_iff.1 hx.at_).1
  have hfl := fm_len Fs
  refine Fn.enter2 59 Tryd.func15 rfl rfl (Nat.le_of_ble_eq_true rfl) (fun F => ?_)
  try simp only [List.cons_append, List.nil_append]
  refine T.seq ?_
  refine T.region ?_
  refine LW.q rfl (Qt.assign rfl) ?_
  refine LW.done ?_
  refine T.seq ?_
  refine T.seq ?_
  refine T.region ?_
  refine LW.q rfl (Qt.move rfl) ?_
  refine LW.q rfl (Qt.lss rfl rfl) ?_
  refine LW.q rfl (Qt.move rfl) ?_
  first | refine LW.gF (t := 10) rfl rfl ?_ | refine LW.gF (t := 10) rfl (decide_eq_false (by omega)) ?_ | refine LW.gF (t := 10) rfl (by omega) ?_
  refine LW.q rfl (Qt.move rfl) ?_
  refine LW.q rfl (Qt.move rfl) ?_
  refine LW.q rfl (Qt.nilCheck rfl) ?_
  refine LW.q rfl (Qt.fieldAddr0 (by kernel_rfl) rfl) ?_
  refine LW.q rfl (Qt.fieldAddr (off := 2) (by kernel_rfl) rfl) ?_
  first | refine LW.q rfl (Qt.load (by kernel_rfl) rfl rfl) ?_ | refine LW.q rfl (Qt.load (by kernel_rfl) rfl (map_at _ _ _ (by omega))) ?_ | refine LW.q rfl (Qt.load (by kernel_rfl) rfl (flat_cell0 _ _ _ (by intros; rfl) _ (by omega) (by rfl))) ?_ | refine LW.q rfl (Qt.load (by kernel_rfl) rfl (flat_cell _ _ _ (by intros; rfl) _ _ (by omega) (by rfl))) ?_ | refine LW.q rfl (Qt.load (by kernel_rfl) rfl (bytes_at _ _ (by omega))) ?_
  refine LW.q rfl (Qt.geq rfl rfl) ?_
  refine LW.q rfl (Qt.pick rfl rfl) ?_
  refine LW.done ?_
  first | refine T.condF rfl ?_ | refine T.condPF rfl (by omega) ?_ | refine T.condBF rfl (by omega) ?_
  refine T.skip ?_
  refine T.seq ?_
  refine T.region ?_
  refine LW.q rfl (Qt.move rfl) ?_
  refine LW.q rfl (Qt.move rfl) ?_
  refine LW.e rfl (Ef.call (Bf.find_some B g b gf n first count hand pl nl cl Fs page i x hn hn2 hx.at_ hx.pg hx.pos hx.first) Tryd.func34 rfl rfl rfl ?_)
  rintro _ _ ⟨rfl, rfl⟩
  try simp only [List.cons_append, List.nil_append]
  refine LW.q rfl (Qt.assign rfl) ?_
  refine LW.done ?_
  refine T.seq ?_
  refine T.seq ?_
  refine T.region ?_
  refine LW.q rfl (Qt.move rfl) ?_
  first | refine LW.q rfl (Qt.eqlNil (by kernel_rfl) rfl rfl) ?_ | refine LW.q rfl (Qt.eqlNN (by kernel_rfl) rfl rfl) ?_
  refine LW.done ?_
  first | refine T.condF rfl ?_ | refine T.condPF rfl (by omega) ?_ | refine T.condBF rfl (by omega) ?_
  refine T.skip ?_
  refine T.seq ?_
  refine T.region ?_
  refine LW.q rfl (Qt.move rfl) ?_
  refine LW.q rfl (Qt.nilCheck rfl) ?_
  refine LW.q rfl (Qt.fieldAddr (off := 3) (by kernel_rfl) rfl) ?_
  refine LW.q rfl (Qt.load (v := .int .i64 x.pins) (by kernel_rfl) rfl (fm_at hx.at_ 3 (by omega))) ?_
  refine LW.q rfl (Qt.add rfl rfl (wr64 (by omega) (by omega))) ?_
  refine LW.q rfl (Qt.nilCheck rfl) ?_
  refine LW.q rfl (Qt.fieldAddr (off := 3) (by kernel_rfl) rfl) ?_
  refine LW.e0 rfl (Ef.store1 (by kernel_rfl) rfl rfl rfl (by omega) ?_)
  rw [fm_set (y := { x with pins := x.pins + 1 }) hx.at_ 3 (by omega) _ rfl]
  have h2 : (Fs.set i { x with pins := x.pins + 1 })[i]? = some { x with pins := x.pins + 1 } := by rw [List.getElem?_set_self hi]
  have hfl2 := fm_len (Fs.set i { x with pins := x.pins + 1 })
  rw [List.length_set] at hfl2
  refine LW.done ?_
  refine T.seq ?_
  refine T.region ?_
  refine LW.q rfl (Qt.move rfl) ?_
  refine LW.q rfl (Qt.nilCheck rfl) ?_
  refine LW.q rfl (Qt.fieldAddr (off := 5) (by kernel_rfl) rfl) ?_
  refine LW.e0 rfl (Ef.store1 (by kernel_rfl) rfl rfl rfl (by omega) ?_)
  rw [fm_set (y := { x with pins := x.pins + 1, used := true }) h2 5 (by omega) _ rfl, List.set_set]
  refine LW.done ?_
  refine T.seq ?_
  refine T.region ?_
  refine LW.q rfl (Qt.assign rfl) ?_
  refine LW.done ?_
  refine T.ret ?_
  exact ⟨.inl rfl, _, _, res [_] rfl ⟨rvT rfl, trivial⟩, ⟨rfl, rfl⟩, Sub.any⟩

theorem da_row {B : Base} {w : World} {L r r2 : List Assn} {Fs : List Fm} {i m c : Nat} {y : Fm} {p : Option Addr} {b : List UInt8} (hi : i < Fs.length) (hp : y.p = p) (hc : y.c = c) (hb : y.b = b) (hm : b.length = m) [k1 : TakeA (rB (.slice p m c) m b) L r] [k2 : TakeA (daA Fs) r r2] (H : Own B w L) : Own B w (daA (Fs.set i y) :: r2) := by
  subst hp; subst hc; subst hb; subst hm
  exact H.map fun h K => da_put hi _ (Has.cons_imp k2.take (k1.take _ K))

set_option maxHeartbeats 4000000 in
set_option maxRecDepth 100000 in
theorem Bp.pin_clock (B : Base) (g b gf n first count hand : Nat) (gp cl gl : Nat) (W : Wl) (D : DD) (Fs : List Fm) (page : Int) (j : Nat) (hj : page = j) (hjc : j < count) (hn : Fs.length = n) (hn2 : n ≤ 4096) (hh : hand < n)
    (hno : ∀ (k : Nat) (y : Fm), Fs[k]? = some y → y.page ≠ page)
    (hfr : ∀ (j : Nat) (x : Fm), Fs[j]? = some x → 0 ≤ x.page ∧ x.page < count ∧ x.b.length = 256) (hpt : ∀ (i : Nat) (x : Fm), Fs[i]? = some x → 0 < x.b.length → ∃ g, x.p = some ⟨g, 0, none⟩)
    (hun : (Fs.all fun x => decide (0 < x.pins)) = false) (hw : WOk W D) (ho : D.Ok) (hsec : first + count ≤ D.secs.length) (i h' : Nat) (A' : List Fa) (x' : Fa) (hc : clockA (2 * n + 1) (Fs.map Fm.a) hand = some (i, A', h')) (hx' : A'[i]? = some x')
    (W' : Wl) (D' : DD) (hW' : W' = (giveP first W D x').1) (hD' : D' = (giveP first W D x').2) (hl1 : D'.secs.length = D.secs.length) (hroom : D'.pend.length < 2 ^ 32) (dat : List UInt8) (hdat : D'.read (first + j) = dat) (hrl : dat.length = 256) :
    Fn Tryd.prog B 15 #[.pointer (some ⟨g, 0, none⟩), .int .i64 page] [poolB g b gf n first count hand (some ⟨gp, 0, none⟩) 1 cl, fmR gf n Fs, lgR (some ⟨gp, 0, none⟩) 1 cl [ifW gl], wlA gl b W, dskA b D, daA Fs]
      (fun u l => ∃ Fs', Fs'.map Fm.a = A'.set i (newA page dat) ∧ Fs'.length = n ∧ u = .int .i64 0 ∧ l = [poolB g b gf n first count h' (some ⟨gp, 0, none⟩) 1 cl, fmR gf n Fs', lgR (some ⟨gp, 0, none⟩) 1 cl [ifW gl], wlA gl b W', dskA b D', daA Fs']) := by
  subst hW'
  obtain ⟨ha1, ha2⟩ := clock_len hc
  rw [List.length_map, hn] at ha1 ha2
  have hmax := hw.max
  refine Fn.enter2 59 Tryd.func15 rfl rfl (Nat.le_of_ble_eq_true rfl) (fun F => ?_)
  try simp only [List.cons_append, List.nil_append]
  refine T.seq ?_
  refine T.region ?_
  refine LW.q rfl (Qt.assign rfl) ?_
  refine LW.done ?_
  refine T.seq ?_
  refine T.seq ?_
  refine T.region ?_
  refine LW.q rfl (Qt.move rfl) ?_
  refine LW.q rfl (Qt.lss rfl rfl) ?_
  refine LW.q rfl (Qt.move rfl) ?_
  first | refine LW.gF (t := 10) rfl rfl ?_ | refine LW.gF (t := 10) rfl (decide_eq_false (by omega)) ?_ | refine LW.gF (t := 10) rfl (by omega) ?_
  refine LW.q rfl (Qt.move rfl) ?_
  refine LW.q rfl (Qt.move rfl) ?_
  refine LW.q rfl (Qt.nilCheck rfl) ?_
  refine LW.q rfl (Qt.fieldAddr0 (by kernel_rfl) rfl) ?_
  refine LW.q rfl (Qt.fieldAddr (off := 2) (by kernel_rfl) rfl) ?_
  first | refine LW.q rfl (Qt.load (by kernel_rfl) rfl rfl) ?_ | refine LW.q rfl (Qt.load (by kernel_rfl) rfl (map_at _ _ _ (by omega))) ?_ | refine LW.q rfl (Qt.load (by kernel_rfl) rfl (flat_cell0 _ _ _ (by intros; rfl) _ (by omega) (by rfl))) ?_ | refine LW.q rfl (Qt.load (by kernel_rfl) rfl (flat_cell _ _ _ (by intros; rfl) _ _ (by omega) (by rfl))) ?_ | refine LW.q rfl (Qt.load (by kernel_rfl) rfl (bytes_at _ _ (by omega))) ?_
  refine LW.q rfl (Qt.geq rfl rfl) ?_
  refine LW.q rfl (Qt.pick rfl rfl) ?_
  refine LW.done ?_
  first | refine T.condF rfl ?_ | refine T.condPF rfl (by omega) ?_ | refine T.condBF rfl (by omega) ?_
  refine T.skip ?_
  refine T.seq ?_
  refine T.region ?_
  refine LW.q rfl (Qt.move rfl) ?_
  refine LW.q rfl (Qt.move rfl) ?_
  refine LW.e rfl (Ef.call (Bf.find_none B g b gf n first count hand (some ⟨gp, 0, none⟩) 1 cl Fs page hn hn2 (fun j y hj e => absurd e (hno j y hj))) Tryd.func34 rfl rfl rfl ?_)
  rintro _ _ ⟨rfl, rfl⟩
  try simp only [List.cons_append, List.nil_append]
  refine LW.q rfl (Qt.assign rfl) ?_
  refine LW.done ?_
  refine T.seq ?_
  refine T.seq ?_
  refine T.region ?_
  refine LW.q rfl (Qt.move rfl) ?_
  first | refine LW.q rfl (Qt.eqlNil (by kernel_rfl) rfl rfl) ?_ | refine LW.q rfl (Qt.eqlNN (by kernel_rfl) rfl rfl) ?_
  refine LW.done ?_
  first | refine T.condT rfl ?_ | refine T.condPT rfl (by omega) ?_ | refine T.condBT rfl (by omega) ?_
  refine T.seq ?_
  refine T.region ?_
  refine LW.q rfl (Qt.move rfl) ?_
  refine LW.e rfl (Ef.call (Bp.victim_clock B g b gf n first count hand gp cl gl W D Fs hn hn2 hh hfr hpt hun hw ho hsec i h' A' x' hc hx') Tryd.func35 rfl rfl rfl ?_)
  rintro _ _ ⟨Fs2, hA2, hl2, rfl, rfl⟩
  try simp only [List.cons_append, List.nil_append]
  rw [← hD']
  refine LW.q rfl (Qt.assign rfl) ?_
  refine LW.done ?_
  refine T.seq ?_
  refine T.seq ?_
  refine T.region ?_
  refine LW.q rfl (Qt.move rfl) ?_
  first | refine LW.q rfl (Qt.eqlNil (by kernel_rfl) rfl rfl) ?_ | refine LW.q rfl (Qt.eqlNN (by kernel_rfl) rfl rfl) ?_
  refine LW.done ?_
  first | refine T.condF rfl ?_ | refine T.condPF rfl (by omega) ?_ | refine T.condBF rfl (by omega) ?_
  refine T.skip ?_
  refine T.seq ?_
  refine T.drawBl 17 none (by kernel_rfl) (Nat.le_of_ble_eq_true rfl) (by kernel_rfl) ?_
  refine RW.q 0 rfl rfl (by kernel_rfl) Sub.any (Qt.move rfl) ?_
  refine RW.q 1 rfl rfl (by kernel_rfl) Sub.any (Qt.nilCheck rfl) ?_
  refine RW.q 2 rfl rfl (by kernel_rfl) Sub.any (Qt.fieldAddr0 (by kernel_rfl) rfl) ?_
  refine RW.q 3 rfl rfl (by kernel_rfl) Sub.any (Qt.fieldAddr0 (by kernel_rfl) rfl) ?_
  first | refine RW.q 4 rfl rfl (by kernel_rfl) Sub.any (Qt.load (by kernel_rfl) rfl rfl) ?_ | refine RW.q 4 rfl rfl (by kernel_rfl) Sub.any (Qt.load (by kernel_rfl) rfl (map_at _ _ _ (by omega))) ?_ | refine RW.q 4 rfl rfl (by kernel_rfl) Sub.any (Qt.load (by kernel_rfl) rfl (flat_cell0 _ _ _ (by intros; rfl) _ (by omega) (by rfl))) ?_ | refine RW.q 4 rfl rfl (by kernel_rfl) Sub.any (Qt.load (by kernel_rfl) rfl (flat_cell _ _ _ (by intros; rfl) _ _ (by omega) (by rfl))) ?_ | refine RW.q 4 rfl rfl (by kernel_rfl) Sub.any (Qt.load (by kernel_rfl) rfl (bytes_at _ _ (by omega))) ?_
  refine RW.q 5 rfl rfl (by kernel_rfl) Sub.any (Qt.move rfl) ?_
  refine RW.q 6 rfl rfl (by kernel_rfl) Sub.any (Qt.nilCheck rfl) ?_
  refine RW.q 7 rfl rfl (by kernel_rfl) Sub.any (Qt.fieldAddr0 (by kernel_rfl) rfl) ?_
  refine RW.q 8 rfl rfl (by kernel_rfl) Sub.any (Qt.fieldAddr (off := 1) (by kernel_rfl) rfl) ?_
  first | refine RW.q 9 rfl rfl (by kernel_rfl) Sub.any (Qt.load (by kernel_rfl) rfl rfl) ?_ | refine RW.q 9 rfl rfl (by kernel_rfl) Sub.any (Qt.load (by kernel_rfl) rfl (map_at _ _ _ (by omega))) ?_ | refine RW.q 9 rfl rfl (by kernel_rfl) Sub.any (Qt.load (by kernel_rfl) rfl (flat_cell0 _ _ _ (by intros; rfl) _ (by omega) (by rfl))) ?_ | refine RW.q 9 rfl rfl (by kernel_rfl) Sub.any (Qt.load (by kernel_rfl) rfl (flat_cell _ _ _ (by intros; rfl) _ _ (by omega) (by rfl))) ?_ | refine RW.q 9 rfl rfl (by kernel_rfl) Sub.any (Qt.load (by kernel_rfl) rfl (bytes_at _ _ (by omega))) ?_
  refine RW.q 10 rfl rfl (by kernel_rfl) Sub.any (Qt.move rfl) ?_
  refine RW.q 11 rfl rfl (by kernel_rfl) Sub.any (Qt.add rfl rfl (wr64 (by omega) (by omega))) ?_
  refine RW.one 12 (by kernel_rfl) ?_
  refine RO.eS rfl rfl (Ef.call (Dk.readF B b D' (first + j) _ (by omega) (by omega) hroom) Tryd.func19 rfl rfl rfl ?_)
  rintro _ _ ⟨gx, cx, rfl, rfl⟩
  try simp only [List.cons_append, List.nil_append]
  rw [hdat]
  have hi : i < Fs2.length := by omega
  have hfl := fm_len Fs2
  refine ⟨Sub.any, ?_⟩
  refine RW.q 13 rfl rfl (by kernel_rfl) Sub.any (Qt.move rfl) ?_
  refine RW.q 14 rfl rfl (by kernel_rfl) Sub.any (Qt.extract rfl rfl) ?_
  refine RW.q 15 rfl rfl (by kernel_rfl) Sub.any (Qt.extract rfl rfl) ?_
  refine RW.q 16 rfl rfl (by kernel_rfl) Sub.any (Qt.assign rfl) ?_
  refine RW.done (by rfl) ?_
  simp only [List.drop_succ_cons, List.drop_zero, List.drop_nil]
  refine LW.q rfl (Qt.assign rfl) ?_
  refine LW.done ?_
  refine T.region ?_
  refine LW.q rfl (Qt.move rfl) ?_
  refine LW.q rfl (Qt.move rfl) ?_
  refine LW.q rfl (Qt.move rfl) ?_
  refine LW.q rfl (Qt.build [(0, 1), (1, 1), (2, 1), (3, 1), (4, 1), (5, 1)] [.int .i64 0, .slice none 0 0, .int .i64 0, .int .i64 0, .bool false, .bool false] [_, _, _, _, _, _] [(0, _), (1, _)] (by kernel_rfl) (by unfold zeroB; kernel_rfl) rfl rfl) ?_
  refine LW.q rfl (Qt.nilCheck rfl) ?_
  refine LW.e0 rfl (Ef.store (fmC ⟨page, 0, 0, false, false, some ⟨gx, 0, none⟩, cx, dat⟩) (by kernel_rfl) rfl rfl (by simp only [fmC, hrl]; rfl) rfl (by simp only [List.length_cons, List.length_nil]; omega) ?_)
  rw [fm_splice hi]
  have h2 : (Fs2.set i ⟨page, 0, 0, false, false, some ⟨gx, 0, none⟩, cx, dat⟩)[i]? = some ⟨page, 0, 0, false, false, some ⟨gx, 0, none⟩, cx, dat⟩ := by rw [List.getElem?_set_self hi]
  have hfl2 := fm_len (Fs2.set i ⟨page, 0, 0, false, false, some ⟨gx, 0, none⟩, cx, dat⟩)
  rw [List.length_set] at hfl2
  refine LW.done ?_
  refine T.seq ?_
  refine T.region ?_
  refine LW.q rfl (Qt.move rfl) ?_
  refine LW.q rfl (Qt.nilCheck rfl) ?_
  refine LW.q rfl (Qt.fieldAddr (off := 3) (by kernel_rfl) rfl) ?_
  refine LW.q rfl (Qt.load (v := .int .i64 0) (by kernel_rfl) rfl (fm_at h2 3 (by omega))) ?_
  refine LW.q rfl (Qt.add rfl rfl (wr64 (by omega) (by omega))) ?_
  refine LW.q rfl (Qt.nilCheck rfl) ?_
  refine LW.q rfl (Qt.fieldAddr (off := 3) (by kernel_rfl) rfl) ?_
  refine LW.e0 rfl (Ef.store1 (by kernel_rfl) rfl rfl rfl (by omega) ?_)
  rw [fm_set (y := ⟨page, 0, 1, false, false, some ⟨gx, 0, none⟩, cx, dat⟩) h2 3 (by omega) (.int .i64 (0 + 1)) rfl, List.set_set]
  have h3 : (Fs2.set i ⟨page, 0, 1, false, false, some ⟨gx, 0, none⟩, cx, dat⟩)[i]? = some ⟨page, 0, 1, false, false, some ⟨gx, 0, none⟩, cx, dat⟩ := by rw [List.getElem?_set_self hi]
  have hfl3 := fm_len (Fs2.set i ⟨page, 0, 1, false, false, some ⟨gx, 0, none⟩, cx, dat⟩)
  rw [List.length_set] at hfl3
  refine LW.done ?_
  refine T.seq ?_
  refine T.region ?_
  refine LW.q rfl (Qt.move rfl) ?_
  refine LW.q rfl (Qt.nilCheck rfl) ?_
  refine LW.q rfl (Qt.fieldAddr (off := 5) (by kernel_rfl) rfl) ?_
  refine LW.e0 rfl (Ef.store1 (by kernel_rfl) rfl rfl rfl (by omega) ?_)
  rw [fm_set (y := fmNew page (some ⟨gx, 0, none⟩) cx dat) h3 5 (by omega) _ rfl, List.set_set]
  refine LW.done ?_
  refine T.seq ?_
  refine T.region ?_
  refine LW.q rfl (Qt.assign rfl) ?_
  refine LW.done ?_
  refine T.conv (fun w ho => da_row (Fs := Fs2) (y := fmNew page (some ⟨gx, 0, none⟩) cx dat) hi rfl rfl rfl hrl ho) ?_
  refine T.ret ?_
  exact ⟨.inl rfl, _, _, res [_] rfl ⟨rvT rfl, trivial⟩, ⟨Fs2.set i (fmNew page (some ⟨gx, 0, none⟩) cx dat), by rw [List.map_set, hA2]; rfl, by rw [List.length_set]; exact hl2, rfl, rfl⟩, Sub.any⟩

/-! what Pin comes to, case by case -/
section
variable {first count n : Nat} {s : Pl} {page : Int}
theorem pinP_range (h : page < 0 ∨ (count : Int) ≤ page) : pinP first count s page = (s, 1) := by unfold pinP; rw [if_pos h]
theorem pinP_found {i : Nat} {x : Fa} (h : ¬ (page < 0 ∨ (count : Int) ≤ page)) (hf : findA s.A page = some i) (hx : s.A[i]? = some x) : pinP first count s page = ({ s with A := s.A.set i (upA x) }, 0) := by unfold pinP; rw [if_neg h, hf]; dsimp only; rw [hx]
theorem pinP_free {i : Nat} (h : ¬ (page < 0 ∨ (count : Int) ≤ page)) (hf : findA s.A page = none) (hx : s.A.findIdx? (fun x => decide (x.page < 0)) = some i) : pinP first count s page = ({ s with A := s.A.set i (newA page (s.D.read (first + page.toNat))) }, 0) := by
  unfold pinP; rw [if_neg h, hf]; dsimp only; unfold victimP; rw [hx]
theorem pinP_full (h : ¬ (page < 0 ∨ (count : Int) ≤ page)) (hf : findA s.A page = none) (hx : s.A.findIdx? (fun x => decide (x.page < 0)) = none) (ha : (s.A.all fun x => decide (0 < x.pins)) = true) : pinP first count s page = (s, 60) := by
  unfold pinP; rw [if_neg h, hf]; dsimp only; unfold victimP; rw [hx]; dsimp only; rw [if_pos ha]
theorem pinP_clock {i h' : Nat} {A' : List Fa} {x' : Fa} (h : ¬ (page < 0 ∨ (count : Int) ≤ page)) (hf : findA s.A page = none) (hx : s.A.findIdx? (fun x => decide (x.page < 0)) = none) (ha : (s.A.all fun x => decide (0 < x.pins)) = false) (hc : clockA (2 * s.A.length + 1) s.A s.hand = some (i, A', h')) (hx' : A'[i]? = some x') :
    pinP first count s page = (⟨A'.set i (newA page ((giveP first s.W s.D x').2.read (first + page.toNat))), h', (giveP first s.W s.D x').1, (giveP first s.W s.D x').2⟩, 0) := by
  unfold pinP; rw [if_neg h, hf]; dsimp only; unfold victimP; rw [hx]; dsimp only; rw [if_neg (by rw [ha]; simp), hc]; dsimp only; rw [hx']
/-- The cases of Pin. -/
inductive PinC (first count : Nat) (s : Pl) (page : Int) : Pl × Int → Prop
  | range (h : page < 0 ∨ (count : Int) ≤ page) : PinC first count s page (s, 1)
  | found (i : Nat) (x : Fa) (h : ¬ (page < 0 ∨ (count : Int) ≤ page)) (hf : findA s.A page = some i) (hx : s.A[i]? = some x) : PinC first count s page ({ s with A := s.A.set i (upA x) }, 0)
  | free (i : Nat) (x : Fa) (h : ¬ (page < 0 ∨ (count : Int) ≤ page)) (hf : findA s.A page = none) (hi : s.A[i]? = some x) (hp : x.page < 0) (hfirst : ∀ (k : Nat), k < i → ∀ y : Fa, s.A[k]? = some y → 0 ≤ y.page) : PinC first count s page ({ s with A := s.A.set i (newA page (s.D.read (first + page.toNat))) }, 0)
  | full (h : ¬ (page < 0 ∨ (count : Int) ≤ page)) (hf : findA s.A page = none) (hx : ∀ (j : Nat) (y : Fa), s.A[j]? = some y → 0 ≤ y.page ∧ 0 < y.pins) : PinC first count s page (s, 60)
  | clock (i h' : Nat) (A' : List Fa) (x' : Fa) (h : ¬ (page < 0 ∨ (count : Int) ≤ page)) (hf : findA s.A page = none) (hx : ∀ (j : Nat) (y : Fa), s.A[j]? = some y → 0 ≤ y.page) (ha : (s.A.all fun x => decide (0 < x.pins)) = false) (hc : clockA (2 * s.A.length + 1) s.A s.hand = some (i, A', h')) (hx' : A'[i]? = some x') (hup : ¬ 0 < x'.pins) :
      PinC first count s page (⟨A'.set i (newA page ((giveP first s.W s.D x').2.read (first + page.toNat))), h', (giveP first s.W s.D x').1, (giveP first s.W s.D x').2⟩, 0)
theorem pin_cases (hh : s.hand < s.A.length) : PinC first count s page (pinP first count s page) := by
  by_cases h : page < 0 ∨ (count : Int) ≤ page
  · rw [pinP_range h]; exact .range h
  · cases hf : findA s.A page with
    | some i =>
      obtain ⟨_, x, hx, _⟩ := findA_some hf
      rw [pinP_found h hf hx]
      exact .found i x h hf hx
    | none =>
      cases hx : s.A.findIdx? (fun x => decide (x.page < 0)) with
      | some i =>
        rw [pinP_free h hf hx]
        obtain ⟨hi, h1, h2⟩ := List.findIdx?_eq_some_iff_getElem.1 hx
        refine .free i s.A[i] h hf (List.getElem?_eq_getElem hi) (of_decide_eq_true h1) fun k hk y hy => ?_
        have hkl := (List.getElem?_eq_some_iff.1 hy).1
        have := h2 k hk
        rw [List.getElem?_eq_getElem hkl] at hy
        cases hy
        have := of_decide_eq_false (Bool.eq_false_iff.2 this)
        omega
      | none =>
        have hge : ∀ (j : Nat) (y : Fa), s.A[j]? = some y → 0 ≤ y.page := fun j y hy => by
          have := List.findIdx?_eq_none_iff.1 hx y (List.mem_of_getElem? hy)
          have := of_decide_eq_false this
          omega
        cases ha : s.A.all fun x => decide (0 < x.pins) with
        | true =>
          rw [pinP_full h hf hx ha]
          exact .full h hf fun j y hy => ⟨hge j y hy, of_decide_eq_true (List.all_eq_true.1 ha y (List.mem_of_getElem? hy))⟩
        | false =>
          obtain ⟨⟨i, A', h'⟩, hc⟩ := clock_some hh ha
          obtain ⟨_, x', hx', hup⟩ := clock_at hc hh
          rw [pinP_clock h hf hx ha hc hx']
          exact .clock i h' A' x' h hf hge ha hc hx' hup
end
theorem fr_ok {count n : Nat} {A : List Fa} (hF : FOk count n A) {j : Nat} {y : Fa} (hy : A[j]? = some y) (h0 : 0 ≤ y.page) : 0 ≤ y.page ∧ y.page < count ∧ y.b.length = 256 ∧ 0 ≤ y.pins := by
  rcases hF.fr y (List.mem_of_getElem? hy) with rfl | h
  · exact absurd h0 (by decide)
  · exact h
theorem WOk.give {first : Nat} {W : Wl} {D : DD} (h : WOk W D) (ho : D.Ok) (hp : D.pend.length + 16384 + 1 < 2 ^ 32) (x : Fa) (hx : first + x.page.toNat < D.secs.length) (hb : x.b.length = 256) : WOk (giveP first W D x).1 (giveP first W D x).2 ∧ (giveP first W D x).2.Ok ∧ (giveP first W D x).2.secs.length = D.secs.length ∧ (giveP first W D x).2.pend.length ≤ D.pend.length + 1 ∧ (giveP first W D x).1.first = W.first ∧ (giveP first W D x).1.count = W.count ∧ (giveP first W D x).1.st = W.st := by
  obtain ⟨f1, f2, f3, f4, f5, f6, f7⟩ := h.force ho x.mark h.room
  unfold giveP
  split
  · refine ⟨⟨f1.fit, f1.max, f1.st, f1.dur, ?_⟩, f2.wr2 _ _ (by omega) hb, f3, ?_, f5, f6, f7⟩
    · simp [DD.write]; omega
    · simp [DD.write]; omega
  · exact ⟨h, ho, rfl, Nat.le_succ _, rfl, rfl, rfl⟩

set_option maxHeartbeats 1000000 in
theorem Bp.pin (B : Base) (g b n first count hand gl : Nat) (A : List Fa) (W : Wl) (D : DD) (page : Int) (hF : FOk count n A) (hpin : ∀ x ∈ A, x.pins < 2 ^ 62) (hh : hand < n) (hw : WOk W D) (ho : D.Ok) (hp : D.pend.length + 16384 + 1 < 2 ^ 32) (hsec : first + count ≤ D.secs.length) :
    Fn Tryd.prog B 15 #[.pointer (some ⟨g, 0, none⟩), .int .i64 page] [plA g b n first count hand gl A, wlA gl b W, dskA b D]
      (fun u l => u = .int .i64 (pinP first count ⟨A, hand, W, D⟩ page).2 ∧ l = [plA g b n first count (pinP first count ⟨A, hand, W, D⟩ page).1.hand gl (pinP first count ⟨A, hand, W, D⟩ page).1.A, wlA gl b (pinP first count ⟨A, hand, W, D⟩ page).1.W, dskA b (pinP first count ⟨A, hand, W, D⟩ page).1.D]) := by
  refine Fn.openPl fun q hA hptr ⟨gp, hgp⟩ => ?_
  obtain ⟨Fs, gf, pl, cl⟩ := q
  dsimp only at hA hptr hgp ⊢
  subst hgp
  simp only [plC, List.cons_append, List.nil_append]
  have hl : Fs.length = n := by rw [← hF.len, ← hA, List.length_map]
  have hn2 := hF.n2
  have hwm := hw.max
  have hwr := hw.room
  have hs : ∀ (A' : List Fa) (h' : Nat) (W' : Wl) (D' : DD) (Fs' : List Fm), Fs'.map Fm.a = A' → Sub [poolB g b gf n first count h' (some ⟨gp, 0, none⟩) 1 cl, fmR gf n Fs', lgR (some ⟨gp, 0, none⟩) 1 cl [ifW gl], daA Fs', wlA gl b W', dskA b D'] [plA g b n first count h' gl A', wlA gl b W', dskA b D'] := fun A' h' W' D' Fs' e => sub_pl ⟨Fs', gf, some ⟨gp, 0, none⟩, cl⟩ e
  have hc := pin_cases (first := first) (count := count) (page := page) (s := ⟨A, hand, W, D⟩) (by rw [hF.len]; exact hh)
  generalize hr : pinP first count ⟨A, hand, W, D⟩ page = res at hc ⊢
  cases hc with
  | range h =>
    refine Fn.wide (Bf.pin_range B g b gf n first count hand (some ⟨gp, 0, none⟩) 1 cl page h) ?_
    rintro v l' ⟨rfl, rfl⟩
    simp only [List.cons_append, List.nil_append]
    exact ⟨_, hs A hand W D Fs hA, by simp, rfl⟩
  | found i x h hf hx =>
    obtain ⟨z, hz⟩ := fd_of hA hf
    obtain rfl : z.a = x := by have := map_a_at hA hz.at_; dsimp only at hx; rw [hx] at this; exact (Option.some.inj this).symm
    have hpz : 0 ≤ z.a.pins := (fr_ok hF hx (by rw [show z.a.page = z.page from rfl, hz.pg]; omega)).2.2.2
    refine Fn.wide (Bf.pin_found B g b gf n first count hand (some ⟨gp, 0, none⟩) 1 cl Fs page (by omega) (by omega) i z hl hn2 hz hpz (hpin z.a (List.mem_of_getElem? hx))) ?_
    rintro v l' ⟨rfl, rfl⟩
    simp only [List.cons_append, List.nil_append]
    refine ⟨_, ?_, by simp, rfl⟩
    have := hs (A.set i (upA z.a)) hand W D (Fs.set i { z with pins := z.pins + 1, used := true }) (by rw [List.map_set, hA]; rfl)
    rw [da_same (y := { z with pins := z.pins + 1, used := true }) hz.at_ rfl rfl rfl] at this
    exact fun k K => this k (Sub.any k K)
  | free i x h hf hi hp2 hfirst =>
    obtain ⟨z, hz, rfl⟩ := map_a_back hA hi
    have hil : i < Fs.length := (List.getElem?_eq_some_iff.1 hz).1
    have hrl := ho.rd (first + page.toNat) (by omega)
    refine Fn.wide (Bf.pin_free B g b gf n first count hand (some ⟨gp, 0, none⟩) 1 cl Fs D page page.toNat (by omega) (by omega) hl hn2 (nofd_of hA hf (by omega)) i z hz hp2 (fun k hk y hy => hfirst k hk y.a (map_a_at hA hy)) (by omega) (by omega) (by omega) hrl) ?_
    rintro v l' ⟨gx, c, rfl, rfl⟩
    simp only [List.cons_append, List.nil_append]
    refine ⟨_, ?_, by simp, rfl⟩
    have := hs (A.set i (newA page (D.read (first + page.toNat)))) hand W D (Fs.set i (fmNew page (some ⟨gx, 0, none⟩) c (D.read (first + page.toNat)))) (by rw [List.map_set, hA]; rfl)
    refine fun k K => this k ?_
    have K2 : Has (rB (.slice (some ⟨gx, 0, none⟩) 256 c) 256 (D.read (first + page.toNat)) :: daA Fs :: [poolB g b gf n first count hand (some ⟨gp, 0, none⟩) 1 cl, fmR gf n (Fs.set i (fmNew page (some ⟨gx, 0, none⟩) c (D.read (first + page.toNat)))), lgR (some ⟨gp, 0, none⟩) 1 cl [ifW gl], wlA gl b W, dskA b D]) k := Sub.any k K
    have K3 : Has (fmD (fmNew page (some ⟨gx, 0, none⟩) c (D.read (first + page.toNat))) :: daA Fs :: [poolB g b gf n first count hand (some ⟨gp, 0, none⟩) 1 cl, fmR gf n (Fs.set i (fmNew page (some ⟨gx, 0, none⟩) c (D.read (first + page.toNat)))), lgR (some ⟨gp, 0, none⟩) 1 cl [ifW gl], wlA gl b W, dskA b D]) k := by
      rw [fmD]
      dsimp only
      rw [hrl]
      exact K2
    have K4 := da_put hil k K3
    exact Sub.any k K4
  | full h hf hx =>
    refine Fn.wide (Bf.pin_full B g b gf n first count hand (some ⟨gp, 0, none⟩) 1 cl Fs page (by omega) (by omega) hl hn2 (nofd_of hA hf (by omega)) (fun j y hy => hx j y.a (map_a_at hA hy))) ?_
    rintro v l' ⟨rfl, rfl⟩
    simp only [List.cons_append, List.nil_append]
    exact ⟨_, fun k K => hs A hand W D Fs hA k (Sub.any k K), by simp, rfl⟩
  | clock i h' A' x' h hf hx ha hc hx' hup =>
    dsimp only at hc ha hx hf
    obtain ⟨y, hy, q1, q2, q3, q4, q5⟩ := clock_fr hc i x' hx'
    have hyo := fr_ok hF hy (hx i y hy)
    obtain ⟨f1, f2, f3, f4, f5, f6, f7⟩ := hw.give (first := first) ho hp x' (by rw [q1]; omega) (by rw [q5]; exact hyo.2.2.1)
    refine Fn.wide (Bp.pin_clock B g b gf n first count hand gp cl gl W D Fs page page.toNat (by omega) (by omega) hl hn2 hh (nofd_of hA hf (by omega)) (fun j z hz => by have := fr_ok hF (map_a_at hA hz) (hx j z.a (map_a_at hA hz)); exact ⟨this.1, this.2.1, this.2.2.1⟩) hptr (by rw [← hA, List.all_map] at ha; exact ha) hw ho hsec i h' A' x' (by rw [hA, ← hF.len]; exact hc) hx' _ _ rfl rfl f3 (by omega) _ rfl (f2.rd _ (by rw [f3]; omega))) ?_
    rintro v l' ⟨Fs', e1, e2, rfl, rfl⟩
    simp only [List.cons_append, List.nil_append]
    exact ⟨_, fun k K => hs _ h' _ _ Fs' e1 k (Sub.any k K), by simp, rfl⟩
end Go.Proofs.YtegohgaccmkigaaDoor
