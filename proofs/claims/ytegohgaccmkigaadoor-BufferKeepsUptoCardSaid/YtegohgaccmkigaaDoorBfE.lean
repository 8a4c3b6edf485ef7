/- The statements of the package buffer: laid, full, awake. Conditions: sizes. -/
import Derived.Test.YtegohgaccmkigaaDoorBgD
set_option linter.unusedSimpArgs false
set_option linter.unusedVariables false
namespace Go.Proofs.YtegohgaccmkigaaDoor
open Go.RowKit

theorem one_at {x y : Fm} {k : Nat} (h : ([x] : List Fm)[k]? = some y) : y = x := by
  cases k with
  | zero => simpa using h.symm
  | succ k => simp at h

set_option maxHeartbeats 4000000 in
set_option maxRecDepth 100000 in
theorem Bf.pin_one (B : Base) (g b gf first count : Nat) (pl : Option Addr) (cl : Nat) (x : Fm) (gl : Nat) (W : Wl) (D D' : DD) (jx : Nat) (hjx : x.page = jx) (hx1 : x.pins = 0) (hx2 : x.used = true) (hx3 : x.dirty = true) (hx4 : x.b.length = 256) (gx cx : Nat) (bx : List UInt8) (hgx : x.p = some ⟨gx, 0, none⟩) (hcx : x.c = cx) (hbx : x.b = bx) (hdur : W.dur < 2 ^ 40) (hm : x.mark ≤ W.dur) (hsecx : first + jx < D.secs.length)
    (page : Int) (j : Nat) (hj : page = j) (hc : j < count) (hne : jx ≠ j) (hsec : first + count ≤ D.secs.length) (hmx : D.secs.length ≤ 4096) (hroom : D.pend.length + 1 < 2 ^ 32) (hD' : D' = D.write (first + jx) bx) (dat : List UInt8) (hdat : D'.read (first + j) = dat) (hrl : dat.length = 256) :
    Fn Tryd.prog B 15 #[.pointer (some ⟨g, 0, none⟩), .int .i64 page] [poolB g b gf 1 first count 0 pl 1 cl, fmR gf 1 [x], lgR pl 1 cl [ifW gl], wlA gl b W, dskA b D, rB (.slice (some ⟨gx, 0, none⟩) 256 cx) 256 bx]
      (fun u l => ∃ gy c, u = .int .i64 0 ∧ l = [rB (.slice (some ⟨gy, 0, none⟩) 256 c) 256 dat, poolB g b gf 1 first count 0 pl 1 cl, fmR gf 1 [fmNew page (some ⟨gy, 0, none⟩) c dat], lgR pl 1 cl [ifW gl], wlA gl b W, dskA b D']) := by
  subst hcx; subst hbx; subst hD'
  have hl1 : (D.write (first + jx) x.b).secs.length = D.secs.length := rfl
  have hl2 : (D.write (first + jx) x.b).pend.length = D.pend.length + 1 := by simp [DD.write]
  obtain ⟨D', hD'⟩ : ∃ D', D.write (first + jx) x.b = D' := ⟨_, rfl⟩
  rw [hD'] at hl1 hl2 hdat ⊢
  refine Fn.enter2 59 Tryd.func15 rfl rfl (Nat.le_of_ble_eq_true rfl) (fun F => ?_)
  try simp only [List.cons_append, List.nil_append]
  refine T.seq ?_
  refine T.region ?_
  refine LW.q rfl (Qt.assign rfl) ?_
  refine LW.done ?_
  refine T.seq ?_
  refine T.seq ?_
  refine T.region ?_
  refine LW.q rfl (Qt.move rfl) ?_
  refine LW.q rfl (Qt.lss rfl rfl) ?_
  refine LW.q rfl (Qt.move rfl) ?_
  first | refine LW.gF (t := 10) rfl rfl ?_ | refine LW.gF (t := 10) rfl (decide_eq_false (by omega)) ?_ | refine LW.gF (t := 10) rfl (by omega) ?_
  refine LW.q rfl (Qt.move rfl) ?_
  refine LW.q rfl (Qt.move rfl) ?_
  refine LW.q rfl (Qt.nilCheck rfl) ?_
  refine LW.q rfl (Qt.fieldAddr0 (by kernel_rfl) rfl) ?_
  refine LW.q rfl (Qt.fieldAddr (off := 2) (by kernel_rfl) rfl) ?_
  first | refine LW.q rfl (Qt.load (by kernel_rfl) rfl rfl) ?_ | refine LW.q rfl (Qt.load (by kernel_rfl) rfl (map_at _ _ _ (by omega))) ?_ | refine LW.q rfl (Qt.load (by kernel_rfl) rfl (flat_cell0 _ _ _ (by intros; rfl) _ (by omega) (by rfl))) ?_ | refine LW.q rfl (Qt.load (by kernel_rfl) rfl (flat_cell _ _ _ (by intros; rfl) _ _ (by omega) (by rfl))) ?_ | refine LW.q rfl (Qt.load (by kernel_rfl) rfl (bytes_at _ _ (by omega))) ?_
  refine LW.q rfl (Qt.geq rfl rfl) ?_
  refine LW.q rfl (Qt.pick rfl rfl) ?_
  refine LW.done ?_
  first | refine T.condF rfl ?_ | refine T.condPF rfl (by omega) ?_ | refine T.condBF rfl (by omega) ?_
  refine T.skip ?_
  refine T.seq ?_
  refine T.region ?_
  refine LW.q rfl (Qt.move rfl) ?_
  refine LW.q rfl (Qt.move rfl) ?_
  refine LW.e rfl (Ef.call (Bf.find_none B g b gf 1 first count 0 pl 1 cl [x] page rfl (by omega) (fun k y hk e => by have := List.getElem?_eq_some_iff.1 hk; obtain ⟨h1, h2⟩ := this; simp at h1; subst h1; simp at h2; subst h2; omega)) Tryd.func34 rfl rfl rfl ?_)
  rintro _ _ ⟨rfl, rfl⟩
  try simp only [List.cons_append, List.nil_append]
  refine LW.q rfl (Qt.assign rfl) ?_
  refine LW.done ?_
  refine T.seq ?_
  refine T.seq ?_
  refine T.region ?_
  refine LW.q rfl (Qt.move rfl) ?_
  first | refine LW.q rfl (Qt.eqlNil (by kernel_rfl) rfl rfl) ?_ | refine LW.q rfl (Qt.eqlNN (by kernel_rfl) rfl rfl) ?_
  refine LW.done ?_
  first | refine T.condT rfl ?_ | refine T.condPT rfl (by omega) ?_ | refine T.condBT rfl (by omega) ?_
  refine T.seq ?_
  refine T.region ?_
  refine LW.q rfl (Qt.move rfl) ?_
  refine LW.e rfl (Ef.call (Bf.victim_one B g b gf first count pl cl x gl W D jx hjx hx1 hx2 hx3 hx4 gx hgx hdur hm hsecx hmx (by omega)) Tryd.func35 rfl rfl rfl ?_)
  rintro _ _ ⟨rfl, rfl⟩
  try simp only [List.cons_append, List.nil_append]
  rw [hD']
  refine LW.q rfl (Qt.assign rfl) ?_
  refine LW.done ?_
  refine T.seq ?_
  refine T.seq ?_
  refine T.region ?_
  refine LW.q rfl (Qt.move rfl) ?_
  first | refine LW.q rfl (Qt.eqlNil (by kernel_rfl) rfl rfl) ?_ | refine LW.q rfl (Qt.eqlNN (by kernel_rfl) rfl rfl) ?_
  refine LW.done ?_
  first | refine T.condF rfl ?_ | refine T.condPF rfl (by omega) ?_ | refine T.condBF rfl (by omega) ?_
  refine T.skip ?_
  refine T.seq ?_
  refine T.drawBl 17 none (by kernel_rfl) (Nat.le_of_ble_eq_true rfl) (by kernel_rfl) ?_
  refine RW.q 0 rfl rfl (by kernel_rfl) Sub.any (Qt.move rfl) ?_
  refine RW.q 1 rfl rfl (by kernel_rfl) Sub.any (Qt.nilCheck rfl) ?_
  refine RW.q 2 rfl rfl (by kernel_rfl) Sub.any (Qt.fieldAddr0 (by kernel_rfl) rfl) ?_
  refine RW.q 3 rfl rfl (by kernel_rfl) Sub.any (Qt.fieldAddr0 (by kernel_rfl) rfl) ?_
  first | refine RW.q 4 rfl rfl (by kernel_rfl) Sub.any (Qt.load (by kernel_rfl) rfl rfl) ?_ | refine RW.q 4 rfl rfl (by kernel_rfl) Sub.any (Qt.load (by kernel_rfl) rfl (map_at _ _ _ (by omega))) ?_ | refine RW.q 4 rfl rfl (by kernel_rfl) Sub.any (Qt.load (by kernel_rfl) rfl (flat_cell0 _ _ _ (by intros; rfl) _ (by omega) (by rfl))) ?_ | refine RW.q 4 rfl rfl (by kernel_rfl) Sub.any (Qt.load (by kernel_rfl) rfl (flat_cell _ _ _ (by intros; rfl) _ _ (by omega) (by rfl))) ?_ | refine RW.q 4 rfl rfl (by kernel_rfl) Sub.any (Qt.load (by kernel_rfl) rfl (bytes_at _ _ (by omega))) ?_
  refine RW.q 5 rfl rfl (by kernel_rfl) Sub.any (Qt.move rfl) ?_
  refine RW.q 6 rfl rfl (by kernel_rfl) Sub.any (Qt.nilCheck rfl) ?_
  refine RW.q 7 rfl rfl (by kernel_rfl) Sub.any (Qt.fieldAddr0 (by kernel_rfl) rfl) ?_
  refine RW.q 8 rfl rfl (by kernel_rfl) Sub.any (Qt.fieldAddr (off := 1) (by kernel_rfl) rfl) ?_
  first | refine RW.q 9 rfl rfl (by kernel_rfl) Sub.any (Qt.load (by kernel_rfl) rfl rfl) ?_ | refine RW.q 9 rfl rfl (by kernel_rfl) Sub.any (Qt.load (by kernel_rfl) rfl (map_at _ _ _ (by omega))) ?_ | refine RW.q 9 rfl rfl (by kernel_rfl) Sub.any (Qt.load (by kernel_rfl) rfl (flat_cell0 _ _ _ (by intros; rfl) _ (by omega) (by rfl))) ?_ | refine RW.q 9 rfl rfl (by kernel_rfl) Sub.any (Qt.load (by kernel_rfl) rfl (flat_cell _ _ _ (by intros; rfl) _ _ (by omega) (by rfl))) ?_ | refine RW.q 9 rfl rfl (by kernel_rfl) Sub.any (Qt.load (by kernel_rfl) rfl (bytes_at _ _ (by omega))) ?_
  refine RW.q 10 rfl rfl (by kernel_rfl) Sub.any (Qt.move rfl) ?_
  refine RW.q 11 rfl rfl (by kernel_rfl) Sub.any (Qt.add rfl rfl (wr64 (by omega) (by omega))) ?_
  refine RW.one 12 (by kernel_rfl) ?_
  refine RO.eS rfl rfl (Ef.call (Dk.readF B b D' (first + j) _ (by omega) (by omega) (by omega)) Tryd.func19 rfl rfl rfl ?_)
  rintro _ _ ⟨gy, cy, rfl, rfl⟩
  try simp only [List.cons_append, List.nil_append]
  rw [hdat]
  refine ⟨Sub.any, ?_⟩
  refine RW.q 13 rfl rfl (by kernel_rfl) Sub.any (Qt.move rfl) ?_
  refine RW.q 14 rfl rfl (by kernel_rfl) Sub.any (Qt.extract rfl rfl) ?_
  refine RW.q 15 rfl rfl (by kernel_rfl) Sub.any (Qt.extract rfl rfl) ?_
  refine RW.q 16 rfl rfl (by kernel_rfl) Sub.any (Qt.assign rfl) ?_
  refine RW.done (by rfl) ?_
  simp only [List.drop_succ_cons, List.drop_zero, List.drop_nil]
  refine LW.q rfl (Qt.assign rfl) ?_
  refine LW.done ?_
  refine T.region ?_
  refine LW.q rfl (Qt.move rfl) ?_
  refine LW.q rfl (Qt.move rfl) ?_
  refine LW.q rfl (Qt.move rfl) ?_
  refine LW.q rfl (Qt.build [(0, 1), (1, 1), (2, 1), (3, 1), (4, 1), (5, 1)] [.int .i64 0, .slice none 0 0, .int .i64 0, .int .i64 0, .bool false, .bool false] [_, _, _, _, _, _] [(0, _), (1, _)] (by kernel_rfl) (by unfold zeroB; kernel_rfl) rfl rfl) ?_
  refine LW.q rfl (Qt.nilCheck rfl) ?_
  refine LW.e0 rfl (Ef.store (fmC ⟨page, 0, 0, false, false, some ⟨gy, 0, none⟩, cy, dat⟩) (by kernel_rfl) rfl rfl (by simp only [fmC, hrl]; rfl) rfl (by simp) ?_)
  rw [fm_splice (Fs := [{ x with used := false }]) (i := 0) (by simp), List.set_cons_zero]
  have h2 : ([⟨page, 0, 0, false, false, some ⟨gy, 0, none⟩, cy, dat⟩] : List Fm)[0]? = some ⟨page, 0, 0, false, false, some ⟨gy, 0, none⟩, cy, dat⟩ := rfl
  refine LW.done ?_
  refine T.seq ?_
  refine T.region ?_
  refine LW.q rfl (Qt.move rfl) ?_
  refine LW.q rfl (Qt.nilCheck rfl) ?_
  refine LW.q rfl (Qt.fieldAddr (off := 3) (by kernel_rfl) rfl) ?_
  refine LW.q rfl (Qt.load (v := .int .i64 0) (by kernel_rfl) rfl (fm_at h2 3 (by omega))) ?_
  refine LW.q rfl (Qt.add rfl rfl (wr64 (by omega) (by omega))) ?_
  refine LW.q rfl (Qt.nilCheck rfl) ?_
  refine LW.q rfl (Qt.fieldAddr (off := 3) (by kernel_rfl) rfl) ?_
  refine LW.e0 rfl (Ef.store1 (by kernel_rfl) rfl rfl rfl (by simp) ?_)
  rw [fm_set (y := ⟨page, 0, 1, false, false, some ⟨gy, 0, none⟩, cy, dat⟩) h2 3 (by omega) (.int .i64 (0 + 1)) rfl, List.set_cons_zero]
  have h3 : ([⟨page, 0, 1, false, false, some ⟨gy, 0, none⟩, cy, dat⟩] : List Fm)[0]? = some ⟨page, 0, 1, false, false, some ⟨gy, 0, none⟩, cy, dat⟩ := rfl
  refine LW.done ?_
  refine T.seq ?_
  refine T.region ?_
  refine LW.q rfl (Qt.move rfl) ?_
  refine LW.q rfl (Qt.nilCheck rfl) ?_
  refine LW.q rfl (Qt.fieldAddr (off := 5) (by kernel_rfl) rfl) ?_
  refine LW.e0 rfl (Ef.store1 (by kernel_rfl) rfl rfl rfl (by simp) ?_)
  rw [fm_set (y := fmNew page (some ⟨gy, 0, none⟩) cy dat) h3 5 (by omega) _ rfl, List.set_cons_zero]
  refine LW.done ?_
  refine T.seq ?_
  refine T.region ?_
  refine LW.q rfl (Qt.assign rfl) ?_
  refine LW.done ?_
  refine T.ret ?_
  exact ⟨.inl rfl, _, _, res [_] rfl ⟨rvT rfl, trivial⟩, ⟨gy, cy, rfl, rfl⟩, Sub.any⟩

set_option maxHeartbeats 1000000 in
set_option maxRecDepth 100000 in
theorem Bf.full (B : Base) (x : UInt8) (i : Int) (hi : i = x.toNat) : Fn Tryd.prog B 20 #[.int .u8 i] [] (fun u l => ∃ g, u = .slice (some ⟨g, 0, none⟩) 256 256 ∧ l = [rB (.slice (some ⟨g, 0, none⟩) 256 256) 256 (List.replicate 256 x)]) := by
  subst hi
  refine Fn.enter1 17 Tryd.func20 rfl rfl (Nat.le_of_ble_eq_true rfl) (fun F => ?_)
  try simp only [List.cons_append, List.nil_append]
  refine T.seq ?_
  refine T.region ?_
  refine LW.q rfl (Qt.assign rfl) ?_
  refine LW.done ?_
  refine T.seq ?_
  refine T.region ?_
  refine LW.e rfl (Ef.make 256 (.int .u8 0) 1 Cd.elemB (by kernel_rfl) rfl rfl rfl rfl (by omega) (by unfold maxLen; omega) ?_)
  rintro g5
  try simp only [List.cons_append, List.nil_append]
  rw [made_bytes]
  refine LW.q rfl (Qt.assign rfl) ?_
  refine LW.done ?_
  refine T.seq ?_
  refine T.seq ?_
  refine T.region ?_
  refine LW.q rfl (Qt.move rfl) ?_
  refine LW.q rfl (Qt.len (e := 5) (sz := 1) (by kernel_rfl) rfl) ?_
  refine LW.q rfl (Qt.move rfl) ?_
  refine LW.done ?_
  refine T.block ?_
  refine T.loop (fun mz fz lz => ∃ (f0 : Fr) (k : Nat) (acc : List UInt8), (k ≤ 256 ∧ acc = List.replicate k x ++ List.replicate (256 - k) 0) ∧ mz = 256 - k ∧ fz = (upd (upd (upd (upd f0 0 (.int .u8 x.toNat)) 3 (.slice (some ⟨g5, 0, none⟩) 256 256)) 7 (.int .i64 256)) 8 (.int .i64 k)) ∧ lz = rB (.slice (some ⟨g5, 0, none⟩) 256 256) 256 acc :: F) ?_ ?_
  · refine ⟨_, _, ⟨_, 0, List.replicate 256 0, ⟨Nat.zero_le _, by simp⟩, rfl, (updS rfl (updS rfl (updS rfl (updS rfl rfl)))), rfl⟩, Sub.any⟩
  · skip
    rintro mz fz lz ⟨f0, k, acc, ⟨hk, hacc⟩, hmz, rfl, rfl⟩
    subst mz
    try simp only [List.cons_append, List.nil_append]
    have hl : acc.length = 256 := by rw [hacc]; simp; omega
    refine T.seq ?_
    refine T.region ?_
    refine LW.q rfl (Qt.lss rfl rfl) ?_
    refine LW.done ?_
    refine T.seq ?_
    refine T.condP rfl (fun hlt => ?_) (fun hlt => ?_)
    · skip
      refine T.skip ?_
      refine T.seq ?_
      refine T.block ?_
      refine T.seq ?_
      refine T.region ?_
      refine LW.q rfl (Qt.move rfl) ?_
      refine LW.q rfl (Qt.assign rfl) ?_
      refine LW.done ?_
      refine T.region ?_
      refine LW.q rfl (Qt.move rfl) ?_
      refine LW.q rfl (Qt.move rfl) ?_
      refine LW.q rfl (Qt.move rfl) ?_
      refine LW.q rfl (Qt.index _ (e := 5) (sz := 1) (by kernel_rfl) rfl rfl rfl (by omega)) ?_
      refine LW.e0 rfl (Ef.store1 (by kernel_rfl) rfl rfl rfl (by first | (simp; done) | (simp; omega)) ?_)
      try simp only [List.set_cons_zero, List.set_cons_succ]
      rw [bytes_set acc k x]
      refine LW.done ?_
      refine T.region ?_
      refine LW.q rfl (Qt.add rfl rfl (wr64 (by omega) (by omega))) ?_
      refine LW.q rfl (Qt.move rfl) ?_
      refine LW.done ?_
      refine ⟨_, ?_, _, ⟨_, k + 1, acc.set k x, ⟨by omega, by rw [hacc, List.set_append_right _ _ (by simp), List.length_replicate, Nat.sub_self, show 256 - k = (256 - (k + 1)) + 1 by omega, List.replicate_succ, List.set_cons_zero, List.replicate_succ' (n := k), List.append_assoc]; rfl⟩, rfl, (updS rfl (updS rfl (updS rfl (updS rfl rfl)))), rfl⟩, Sub.any⟩
      first | omega | (simp; omega)
    · skip
      obtain rfl : k = 256 := by omega
      rw [show acc = List.replicate 256 x by rw [hacc]; simp]
      refine T.exit ?_
      refine T.seq ?_
      refine T.region ?_
      refine LW.q rfl (Qt.move rfl) ?_
      refine LW.q rfl (Qt.assign rfl) ?_
      refine LW.done ?_
      refine T.ret ?_
      exact ⟨.inl rfl, _, _, res [_] rfl ⟨rvT rfl, trivial⟩, ⟨g5, rfl, rfl⟩, Sub.any⟩

/-- What laid leaves. -/
def LaidR (n : Nat) (u : Value) (l : List Assn) : Prop := ∃ gb b gl g gf pl cl D, u = .pointer (some ⟨gb, 0, none⟩) ∧ D.Ok ∧ D.secs.length = 12 ∧ D.pend = [] ∧ (∀ x, 4 ≤ x → x < 12 → D.read x = List.replicate 256 0) ∧
  l = [blk gb [.pointer (some ⟨b, 0, none⟩), .pointer (some ⟨gl, 0, none⟩), .pointer (some ⟨g, 0, none⟩)] 46, poolB g b gf n 4 8 0 pl 1 cl, fmR gf n (List.replicate n fm1), lgR pl 1 cl [ifW gl], wlA gl b (mkW 0 4 [] 0), dskA b D]
set_option maxHeartbeats 2000000 in
set_option maxRecDepth 100000 in
theorem Bf.laid (B : Base) (n : Nat) (i : Int) (hi : i = n) (h1 : 1 ≤ n) (h2 : n ≤ 4096) : Fn Tryd.prog B 14 #[.int .i64 i] [] (LaidR n) := by
  subst hi
  refine Fn.enter1 44 Tryd.func14 rfl rfl (Nat.le_of_ble_eq_true rfl) (fun F => ?_)
  try simp only [List.cons_append, List.nil_append]
  refine T.seq ?_
  refine T.region ?_
  refine LW.q rfl (Qt.assign rfl) ?_
  refine LW.done ?_
  refine T.seq ?_
  refine T.region ?_
  refine LW.e rfl (Ef.call (Dk.newF B 12 12 rfl (by omega) (by omega)) Tryd.func9 rfl rfl rfl ?_)
  rintro _ _ ⟨b, rfl, rfl⟩
  try simp only [List.cons_append, List.nil_append]
  refine LW.q rfl (Qt.move rfl) ?_
  refine LW.q rfl (Qt.extract rfl rfl) ?_
  refine LW.q rfl (Qt.extract rfl rfl) ?_
  refine LW.q rfl (Qt.assign rfl) ?_
  refine LW.q rfl (Qt.assign rfl) ?_
  refine LW.done ?_
  refine T.seq ?_
  refine T.seq ?_
  refine T.region ?_
  refine LW.q rfl (Qt.move rfl) ?_
  first | refine LW.q rfl (Qt.eqlNil (by kernel_rfl) rfl rfl) ?_ | refine LW.q rfl (Qt.eqlNN (by kernel_rfl) rfl rfl) ?_
  refine LW.done ?_
  first | refine T.condF rfl ?_ | refine T.condPF rfl (by omega) ?_ | refine T.condBF rfl (by omega) ?_
  refine T.skip ?_
  refine T.seq ?_
  refine T.region ?_
  refine LW.q rfl (Qt.move rfl) ?_
  refine LW.e rfl (Ef.call (Wl.openText B b ⟨List.replicate 12 zs, []⟩ 0 4 [] 0 4 rfl rfl (by omega) (by simp) (by simp) (Secs.new (by omega)) (by simp) (by simp [logB])) Tryd.func33 rfl rfl rfl ?_)
  rintro _ _ ⟨gl, q, cq, R, D1, e1, e2, e3, e4, e5, e6, rfl, rfl⟩
  try simp only [List.cons_append, List.nil_append]
  rw [show (logB 0 0 []).length = 0 from rfl]
  have hl1 : D1.secs.length = 12 := by rw [e3]; rfl
  refine LW.q rfl (Qt.move rfl) ?_
  refine LW.q rfl (Qt.extract rfl rfl) ?_
  refine LW.q rfl (Qt.extract rfl rfl) ?_
  refine LW.q rfl (Qt.extract rfl rfl) ?_
  refine LW.q rfl (Qt.assign rfl) ?_
  refine LW.q rfl (Qt.assign rfl) ?_
  refine LW.q rfl (Qt.assign rfl) ?_
  refine LW.done ?_
  refine T.seq ?_
  refine T.seq ?_
  refine T.region ?_
  refine LW.q rfl (Qt.move rfl) ?_
  first | refine LW.q rfl (Qt.eqlNil (by kernel_rfl) rfl rfl) ?_ | refine LW.q rfl (Qt.eqlNN (by kernel_rfl) rfl rfl) ?_
  refine LW.done ?_
  first | refine T.condF rfl ?_ | refine T.condPF rfl (by omega) ?_ | refine T.condBF rfl (by omega) ?_
  refine T.skip ?_
  refine T.seq ?_
  refine T.region ?_
  refine LW.q rfl (Qt.move rfl) ?_
  refine LW.q rfl (Qt.move rfl) ?_
  refine LW.q rfl (Qt.move rfl) ?_
  refine LW.q rfl (Qt.iface (v := .pointer (some ⟨gl, 0, none⟩)) (by kernel_rfl) rfl) ?_
  refine LW.e rfl (Ef.one [_] (e := 79) (sz := 1) (by kernel_rfl) ⟨.nilIface, by kernel_rfl, rfl⟩ rfl rfl rfl (by omega) (by omega) ?_)
  intro g29
  refine LW.e rfl (Ef.call (Bf.new B [blk g29 [ifW gl] 79] b D1 4 8 n 4 8 n rfl rfl rfl (.slice (some ⟨g29, 0, none⟩) 1 1) [ifW gl] (by omega) (by omega) (by omega) h1 h2 ⟨_, 1, rfl, .inr ⟨g29, 0, rfl, fun w ho => ho.range (g := g29) (C := [ifW gl]) (fun j u hj => by rw [Nat.zero_add]; exact hj)⟩⟩ (by simp [Value.oneCell']) (by simp)) Tryd.func10 rfl rfl rfl ?_)
  rintro _ _ ⟨g, gf, pl, cl, rfl, rfl⟩
  try simp only [List.cons_append, List.nil_append]
  rw [show [ifW gl].length = 1 from rfl]
  refine LW.q rfl (Qt.move rfl) ?_
  refine LW.q rfl (Qt.extract rfl rfl) ?_
  refine LW.q rfl (Qt.extract rfl rfl) ?_
  refine LW.q rfl (Qt.assign rfl) ?_
  refine LW.q rfl (Qt.assign rfl) ?_
  refine LW.done ?_
  refine T.seq ?_
  refine T.seq ?_
  refine T.region ?_
  refine LW.q rfl (Qt.move rfl) ?_
  first | refine LW.q rfl (Qt.eqlNil (by kernel_rfl) rfl rfl) ?_ | refine LW.q rfl (Qt.eqlNN (by kernel_rfl) rfl rfl) ?_
  refine LW.q rfl (Qt.move rfl) ?_
  first | refine LW.gF (t := 35) rfl rfl ?_ | refine LW.gF (t := 35) rfl (decide_eq_false (by omega)) ?_ | refine LW.gF (t := 35) rfl (by omega) ?_
  refine LW.q rfl (Qt.move rfl) ?_
  refine LW.q rfl (Qt.neq rfl rfl) ?_
  refine LW.q rfl (Qt.pick rfl rfl) ?_
  refine LW.done ?_
  first | refine T.condF rfl ?_ | refine T.condPF rfl (by omega) ?_ | refine T.condBF rfl (by omega) ?_
  refine T.skip ?_
  refine T.seq ?_
  refine T.region ?_
  refine LW.q rfl (Qt.move rfl) ?_
  refine LW.q rfl (Qt.move rfl) ?_
  refine LW.q rfl (Qt.move rfl) ?_
  refine LW.q rfl (Qt.build [(0, 1), (1, 1), (2, 1)] [.pointer none, .pointer none, .pointer none] [_, _, _] [(0, _), (1, _), (2, _)] (by kernel_rfl) (by unfold zeroB; kernel_rfl) rfl rfl) ?_
  refine LW.e rfl (Ef.box [.pointer (some ⟨b, 0, none⟩), .pointer (some ⟨gl, 0, none⟩), .pointer (some ⟨g, 0, none⟩)] rfl rfl ?_)
  intro g43
  refine LW.q rfl (Qt.assign rfl) ?_
  refine LW.done ?_
  refine T.ret ?_
  exact ⟨.inl rfl, _, _, res [_] rfl ⟨rvT rfl, trivial⟩, ⟨_, b, gl, g, gf, pl, cl, D1, rfl, e2, hl1, e4, fun x h4 h12 => by rw [e6 x (by simp; omega) (by omega)]; exact DD.new_read h12, rfl⟩, Sub.any⟩

set_option maxHeartbeats 8000000 in
set_option maxRecDepth 100000 in
theorem Bf.awake (B : Base) : Fn Tryd.prog B 8 #[] [] (fun v l => v = .bool true ∧ l = []) := by
  refine Fn.enter0 98 Tryd.func8 rfl rfl (Nat.le_of_ble_eq_true rfl) (fun F => ?_)
  try simp only [List.cons_append, List.nil_append]
  refine T.seq ?_
  refine T.region ?_
  refine LW.q rfl (Qt.assign rfl) ?_
  refine LW.done ?_
  refine T.seq ?_
  refine T.region ?_
  refine LW.e rfl (Ef.call (Bf.laid B 1 1 rfl (by omega) (by omega)) Tryd.func14 rfl rfl rfl ?_)
  rintro _ _ ⟨gb, b, gl, g, gf, pl, cl, D, rfl, ho, hl, hp, hz, rfl⟩
  try simp only [List.cons_append, List.nil_append]
  rw [show List.replicate 1 fm1 = [fm1] from rfl]
  refine LW.q rfl (Qt.assign rfl) ?_
  refine LW.done ?_
  refine T.seq ?_
  refine T.seq ?_
  have r6 : D.read (4 + 2) = List.replicate 256 0 := hz 6 (by omega) (by omega)
  have r7 : D.read (4 + 3) = List.replicate 256 0 := hz 7 (by omega) (by omega)
  have hW : (mkW 0 4 [] 0).dur = 0 := rfl
  refine T.draw 35 ([blk gb [.pointer (some ⟨b, 0, none⟩), .pointer (some ⟨gl, 0, none⟩), .pointer (some ⟨g, 0, none⟩)] 46]) (by kernel_rfl) (Nat.le_of_ble_eq_true rfl) (by kernel_rfl) ?_
  refine RW.q 0 rfl rfl (by kernel_rfl) Sub.any (Qt.move rfl) ?_
  first | refine RW.q 1 rfl rfl (by kernel_rfl) Sub.any (Qt.eqlNil (by kernel_rfl) rfl rfl) ?_ | refine RW.q 1 rfl rfl (by kernel_rfl) Sub.any (Qt.eqlNN (by kernel_rfl) rfl rfl) ?_
  refine RW.q 2 rfl rfl (by kernel_rfl) Sub.any (Qt.move rfl) ?_
  first | refine RW.gF (t := 7) rfl rfl ?_ | refine RW.gF (t := 7) rfl (decide_eq_false (by omega)) ?_ | refine RW.gF (t := 7) rfl (by omega) ?_
  refine RW.q 3 rfl rfl (by kernel_rfl) Sub.any (Qt.move rfl) ?_
  refine RW.q 4 rfl rfl (by kernel_rfl) Sub.any (Qt.nilCheck rfl) ?_
  refine RW.q 5 rfl rfl (by kernel_rfl) Sub.any (Qt.fieldAddr (off := 2) (by kernel_rfl) rfl) ?_
  first | refine RW.q 6 rfl rfl (by kernel_rfl) Sub.any (Qt.load (by kernel_rfl) rfl rfl) ?_ | refine RW.q 6 rfl rfl (by kernel_rfl) Sub.any (Qt.load (by kernel_rfl) rfl (map_at _ _ _ (by omega))) ?_ | refine RW.q 6 rfl rfl (by kernel_rfl) Sub.any (Qt.load (by kernel_rfl) rfl (flat_cell0 _ _ _ (by intros; rfl) _ (by omega) (by rfl))) ?_ | refine RW.q 6 rfl rfl (by kernel_rfl) Sub.any (Qt.load (by kernel_rfl) rfl (flat_cell _ _ _ (by intros; rfl) _ _ (by omega) (by rfl))) ?_ | refine RW.q 6 rfl rfl (by kernel_rfl) Sub.any (Qt.load (by kernel_rfl) rfl (bytes_at _ _ (by omega))) ?_
  refine RW.one 7 (by kernel_rfl) ?_
  refine RO.eS rfl rfl (Ef.call (Bf.pin_free B g b gf 1 4 8 0 pl 1 cl [fm1] D 2 2 rfl (by omega) rfl (by omega) (fun k y hk => by rw [one_at hk]; decide) 0 fm1 rfl (by decide) (fun k hk => by omega) (by omega) (by omega) (by rw [hp]; simp) (by rw [r6]; simp)) Tryd.func15 rfl rfl rfl ?_)
  rintro _ _ ⟨gx, cx, rfl, rfl⟩
  try simp only [List.cons_append, List.nil_append]
  rw [r6, List.set_cons_zero]
  refine ⟨Sub.any, ?_⟩
  refine RW.q 8 rfl rfl (by kernel_rfl) Sub.any (Qt.neq rfl rfl) ?_
  refine RW.q 9 rfl rfl (by kernel_rfl) Sub.any (Qt.pick rfl rfl) ?_
  refine RW.q 10 rfl rfl (by kernel_rfl) Sub.any (Qt.move rfl) ?_
  first | refine RW.gF (t := 15) rfl rfl ?_ | refine RW.gF (t := 15) rfl (decide_eq_false (by omega)) ?_ | refine RW.gF (t := 15) rfl (by omega) ?_
  refine RW.q 11 rfl rfl (by kernel_rfl) Sub.any (Qt.move rfl) ?_
  refine RW.q 12 rfl rfl (by kernel_rfl) Sub.any (Qt.nilCheck rfl) ?_
  refine RW.q 13 rfl rfl (by kernel_rfl) Sub.any (Qt.fieldAddr (off := 2) (by kernel_rfl) rfl) ?_
  first | refine RW.q 14 rfl rfl (by kernel_rfl) Sub.any (Qt.load (by kernel_rfl) rfl rfl) ?_ | refine RW.q 14 rfl rfl (by kernel_rfl) Sub.any (Qt.load (by kernel_rfl) rfl (map_at _ _ _ (by omega))) ?_ | refine RW.q 14 rfl rfl (by kernel_rfl) Sub.any (Qt.load (by kernel_rfl) rfl (flat_cell0 _ _ _ (by intros; rfl) _ (by omega) (by rfl))) ?_ | refine RW.q 14 rfl rfl (by kernel_rfl) Sub.any (Qt.load (by kernel_rfl) rfl (flat_cell _ _ _ (by intros; rfl) _ _ (by omega) (by rfl))) ?_ | refine RW.q 14 rfl rfl (by kernel_rfl) Sub.any (Qt.load (by kernel_rfl) rfl (bytes_at _ _ (by omega))) ?_
  refine RW.one 15 (by kernel_rfl) ?_
  refine RO.eS rfl rfl (Ef.call (Bf.full B 7 7 rfl) Tryd.func20 rfl rfl rfl ?_)
  rintro _ _ ⟨g7, rfl, rfl⟩
  try simp only [List.cons_append, List.nil_append]
  refine ⟨Sub.any, ?_⟩
  refine RW.one 16 (by kernel_rfl) ?_
  refine RO.eS rfl rfl (Ef.call (Bf.put B [rB (.slice (some ⟨g7, 0, none⟩) 256 256) 256 (List.replicate 256 7)] g b gf 1 4 8 0 pl 1 cl [fmNew 2 (some ⟨gx, 0, none⟩) cx (List.replicate 256 0)] 2 0 (fmNew 2 (some ⟨gx, 0, none⟩) cx (List.replicate 256 0)) rfl (by omega) ⟨rfl, rfl, by omega, fun j hj => by omega⟩ (by show (0 : Int) < 1; omega) (some ⟨g7, 0, none⟩) 256 (List.replicate 256 7) 0 (by simp) (RdV.rB (by simp) (fun _ => ⟨_, rfl⟩))) Tryd.func16 rfl rfl rfl ?_)
  rintro _ _ ⟨p5, c5, rfl, ⟨g5, rfl⟩, rfl⟩
  try simp only [List.cons_append, List.nil_append]
  rw [List.set_cons_zero]
  refine ⟨Sub.any, ?_⟩
  refine RW.q 17 rfl rfl (by kernel_rfl) Sub.any (Qt.neq rfl rfl) ?_
  refine RW.q 18 rfl rfl (by kernel_rfl) Sub.any (Qt.pick rfl rfl) ?_
  refine RW.q 19 rfl rfl (by kernel_rfl) Sub.any (Qt.move rfl) ?_
  first | refine RW.gF (t := 24) rfl rfl ?_ | refine RW.gF (t := 24) rfl (decide_eq_false (by omega)) ?_ | refine RW.gF (t := 24) rfl (by omega) ?_
  refine RW.q 20 rfl rfl (by kernel_rfl) Sub.any (Qt.move rfl) ?_
  refine RW.q 21 rfl rfl (by kernel_rfl) Sub.any (Qt.nilCheck rfl) ?_
  refine RW.q 22 rfl rfl (by kernel_rfl) Sub.any (Qt.fieldAddr (off := 2) (by kernel_rfl) rfl) ?_
  first | refine RW.q 23 rfl rfl (by kernel_rfl) Sub.any (Qt.load (by kernel_rfl) rfl rfl) ?_ | refine RW.q 23 rfl rfl (by kernel_rfl) Sub.any (Qt.load (by kernel_rfl) rfl (map_at _ _ _ (by omega))) ?_ | refine RW.q 23 rfl rfl (by kernel_rfl) Sub.any (Qt.load (by kernel_rfl) rfl (flat_cell0 _ _ _ (by intros; rfl) _ (by omega) (by rfl))) ?_ | refine RW.q 23 rfl rfl (by kernel_rfl) Sub.any (Qt.load (by kernel_rfl) rfl (flat_cell _ _ _ (by intros; rfl) _ _ (by omega) (by rfl))) ?_ | refine RW.q 23 rfl rfl (by kernel_rfl) Sub.any (Qt.load (by kernel_rfl) rfl (bytes_at _ _ (by omega))) ?_
  refine RW.one 24 (by kernel_rfl) ?_
  refine RO.eS rfl rfl (Ef.call (Bf.unpin B g b gf 1 4 8 0 pl 1 cl [⟨2, max 0 0, 1, true, true, some ⟨g5, 0, none⟩, c5, List.replicate 256 7⟩] 2 0 ⟨2, max 0 0, 1, true, true, some ⟨g5, 0, none⟩, c5, List.replicate 256 7⟩ rfl (by omega) ⟨rfl, rfl, by omega, fun j hj => by omega⟩ (by show (0 : Int) < 1; omega) (by show (1 : Int) < _; omega)) Tryd.func22 rfl rfl rfl ?_)
  rintro _ _ ⟨rfl, rfl⟩
  try simp only [List.cons_append, List.nil_append]
  rw [List.set_cons_zero]
  refine ⟨Sub.any, ?_⟩
  refine RW.q 25 rfl rfl (by kernel_rfl) Sub.any (Qt.neq rfl rfl) ?_
  refine RW.q 26 rfl rfl (by kernel_rfl) Sub.any (Qt.pick rfl rfl) ?_
  refine RW.q 27 rfl rfl (by kernel_rfl) Sub.any (Qt.move rfl) ?_
  first | refine RW.gF (t := 32) rfl rfl ?_ | refine RW.gF (t := 32) rfl (decide_eq_false (by omega)) ?_ | refine RW.gF (t := 32) rfl (by omega) ?_
  refine RW.q 28 rfl rfl (by kernel_rfl) Sub.any (Qt.move rfl) ?_
  refine RW.q 29 rfl rfl (by kernel_rfl) Sub.any (Qt.nilCheck rfl) ?_
  refine RW.q 30 rfl rfl (by kernel_rfl) Sub.any (Qt.fieldAddr (off := 2) (by kernel_rfl) rfl) ?_
  first | refine RW.q 31 rfl rfl (by kernel_rfl) Sub.any (Qt.load (by kernel_rfl) rfl rfl) ?_ | refine RW.q 31 rfl rfl (by kernel_rfl) Sub.any (Qt.load (by kernel_rfl) rfl (map_at _ _ _ (by omega))) ?_ | refine RW.q 31 rfl rfl (by kernel_rfl) Sub.any (Qt.load (by kernel_rfl) rfl (flat_cell0 _ _ _ (by intros; rfl) _ (by omega) (by rfl))) ?_ | refine RW.q 31 rfl rfl (by kernel_rfl) Sub.any (Qt.load (by kernel_rfl) rfl (flat_cell _ _ _ (by intros; rfl) _ _ (by omega) (by rfl))) ?_ | refine RW.q 31 rfl rfl (by kernel_rfl) Sub.any (Qt.load (by kernel_rfl) rfl (bytes_at _ _ (by omega))) ?_
  refine RW.one 32 (by kernel_rfl) ?_
  refine RO.eS rfl rfl (Ef.call (Bf.pin_one B g b gf 4 8 pl cl ⟨2, max 0 0, 1 - 1, true, true, some ⟨g5, 0, none⟩, c5, List.replicate 256 7⟩ gl (mkW 0 4 [] 0) D (D.write (4 + 2) (List.replicate 256 7)) 2 rfl rfl rfl rfl (by simp) g5 c5 (List.replicate 256 7) rfl rfl rfl (by rw [hW]; omega) (by show max (0 : Int) 0 ≤ ((mkW 0 4 [] 0).dur : Int); rw [hW]; omega) (by omega) 3 3 rfl (by omega) (by omega) (by omega) (by omega) (by rw [hp]; simp) rfl (List.replicate 256 0) (by rw [DD.rdW, if_neg (by omega)]; exact r7) (by simp)) Tryd.func15 rfl rfl rfl ?_)
  rintro _ _ ⟨gy, cy, rfl, rfl⟩
  try simp only [List.cons_append, List.nil_append]
  refine ⟨Sub.any, ?_⟩
  refine RW.q 33 rfl rfl (by kernel_rfl) Sub.any (Qt.neq rfl rfl) ?_
  refine RW.q 34 rfl rfl (by kernel_rfl) Sub.any (Qt.pick rfl rfl) ?_
  refine RW.done (by rfl) ?_
  simp only [List.drop_succ_cons, List.drop_zero, List.drop_nil]
  refine LW.done ?_
  first | refine T.condF rfl ?_ | refine T.condPF rfl (by omega) ?_ | refine T.condBF rfl (by omega) ?_
  refine T.skip ?_
  refine T.seq ?_
  refine T.region ?_
  refine LW.q rfl (Qt.move rfl) ?_
  refine LW.q rfl (Qt.nilCheck rfl) ?_
  refine LW.q rfl (Qt.fieldAddr0 (by kernel_rfl) rfl) ?_
  first | refine LW.q rfl (Qt.load (by kernel_rfl) rfl rfl) ?_ | refine LW.q rfl (Qt.load (by kernel_rfl) rfl (map_at _ _ _ (by omega))) ?_ | refine LW.q rfl (Qt.load (by kernel_rfl) rfl (flat_cell0 _ _ _ (by intros; rfl) _ (by omega) (by rfl))) ?_ | refine LW.q rfl (Qt.load (by kernel_rfl) rfl (flat_cell _ _ _ (by intros; rfl) _ _ (by omega) (by rfl))) ?_ | refine LW.q rfl (Qt.load (by kernel_rfl) rfl (bytes_at _ _ (by omega))) ?_
  refine LW.e rfl (Ef.call (Dk.readF B b (D.write (4 + 2) (List.replicate 256 7)) 6 6 rfl (by show 6 < D.secs.length; omega) (by simp [DD.write, hp])) Tryd.func19 rfl rfl rfl ?_)
  rintro _ _ ⟨gr, cr, rfl, rfl⟩
  try simp only [List.cons_append, List.nil_append]
  rw [DD.rdW, if_pos rfl]
  refine LW.q rfl (Qt.move rfl) ?_
  refine LW.q rfl (Qt.extract rfl rfl) ?_
  refine LW.q rfl (Qt.extract rfl rfl) ?_
  refine LW.q rfl (Qt.assign rfl) ?_
  refine LW.q rfl (Qt.assign rfl) ?_
  refine LW.done ?_
  refine T.seq ?_
  refine T.region ?_
  refine LW.q rfl (Qt.move rfl) ?_
  refine LW.q rfl (Qt.eql rfl rfl) ?_
  refine LW.q rfl (Qt.move rfl) ?_
  first | refine LW.gT (t := 50) rfl rfl ?_ | refine LW.gT (t := 50) rfl (decide_eq_true (by omega)) ?_ | refine LW.gT (t := 50) rfl (by omega) ?_
  refine LW.q rfl (Qt.move rfl) ?_
  refine LW.q rfl (Qt.len (e := 5) (sz := 1) (by kernel_rfl) rfl) ?_
  refine LW.q rfl (Qt.eql rfl rfl) ?_
  refine LW.q rfl (Qt.pick rfl rfl) ?_
  refine LW.q rfl (Qt.move rfl) ?_
  first | refine LW.gT (t := 55) rfl rfl ?_ | refine LW.gT (t := 55) rfl (decide_eq_true (by omega)) ?_ | refine LW.gT (t := 55) rfl (by omega) ?_
  refine LW.q rfl (Qt.move rfl) ?_
  refine LW.q rfl (Qt.index 5 (e := 5) (sz := 1) (by kernel_rfl) rfl rfl rfl (by omega)) ?_
  refine LW.q rfl (Qt.load (v := .int .u8 (7 : UInt8).toNat) (by kernel_rfl) rfl (bytes_get (l := List.replicate 256 7) (j := 5) (by simp))) ?_
  refine LW.q rfl (Qt.eql rfl rfl) ?_
  refine LW.q rfl (Qt.pick rfl rfl) ?_
  refine LW.q rfl (Qt.move rfl) ?_
  first | refine LW.gT (t := 61) rfl rfl ?_ | refine LW.gT (t := 61) rfl (decide_eq_true (by omega)) ?_ | refine LW.gT (t := 61) rfl (by omega) ?_
  refine LW.q rfl (Qt.move rfl) ?_
  refine LW.q rfl (Qt.nilCheck rfl) ?_
  refine LW.q rfl (Qt.fieldAddr (off := 2) (by kernel_rfl) rfl) ?_
  first | refine LW.q rfl (Qt.load (by kernel_rfl) rfl rfl) ?_ | refine LW.q rfl (Qt.load (by kernel_rfl) rfl (map_at _ _ _ (by omega))) ?_ | refine LW.q rfl (Qt.load (by kernel_rfl) rfl (flat_cell0 _ _ _ (by intros; rfl) _ (by omega) (by rfl))) ?_ | refine LW.q rfl (Qt.load (by kernel_rfl) rfl (flat_cell _ _ _ (by intros; rfl) _ _ (by omega) (by rfl))) ?_ | refine LW.q rfl (Qt.load (by kernel_rfl) rfl (bytes_at _ _ (by omega))) ?_
  refine LW.e rfl (Ef.call (Bf.frames B g b gf 1 4 8 0 pl 1 cl [fmNew 3 (some ⟨gy, 0, none⟩) cy (List.replicate 256 0)] rfl (by omega)) Tryd.func13 rfl rfl rfl ?_)
  rintro _ _ ⟨p8, c8, rfl, rfl⟩
  try simp only [List.cons_append, List.nil_append]
  refine LW.q rfl (Qt.len (e := 3) (sz := 1) (by kernel_rfl) rfl) ?_
  refine LW.q rfl (Qt.eql rfl rfl) ?_
  refine LW.q rfl (Qt.pick rfl rfl) ?_
  refine LW.q rfl (Qt.move rfl) ?_
  first | refine LW.gT (t := 70) rfl rfl ?_ | refine LW.gT (t := 70) rfl (decide_eq_true (by omega)) ?_ | refine LW.gT (t := 70) rfl (by omega) ?_
  refine LW.q rfl (Qt.move rfl) ?_
  refine LW.q rfl (Qt.nilCheck rfl) ?_
  refine LW.q rfl (Qt.fieldAddr (off := 2) (by kernel_rfl) rfl) ?_
  first | refine LW.q rfl (Qt.load (by kernel_rfl) rfl rfl) ?_ | refine LW.q rfl (Qt.load (by kernel_rfl) rfl (map_at _ _ _ (by omega))) ?_ | refine LW.q rfl (Qt.load (by kernel_rfl) rfl (flat_cell0 _ _ _ (by intros; rfl) _ (by omega) (by rfl))) ?_ | refine LW.q rfl (Qt.load (by kernel_rfl) rfl (flat_cell _ _ _ (by intros; rfl) _ _ (by omega) (by rfl))) ?_ | refine LW.q rfl (Qt.load (by kernel_rfl) rfl (bytes_at _ _ (by omega))) ?_
  refine LW.e rfl (Ef.call (Bf.frames B g b gf 1 4 8 0 pl 1 cl [fmNew 3 (some ⟨gy, 0, none⟩) cy (List.replicate 256 0)] rfl (by omega)) Tryd.func13 rfl rfl rfl ?_)
  rintro _ _ ⟨p9, c9, rfl, rfl⟩
  try simp only [List.cons_append, List.nil_append]
  refine LW.own (fun w ho => ?_)
  obtain ⟨g9, rfl⟩ : ∃ g9, p9 = some ⟨g9, 0, none⟩ := (ho.slice_at (p := p9) (m := 1) (c := c9)).2.1 (by omega)
  clear ho
  refine LW.q rfl (Qt.index 0 (e := 3) (sz := 1) (by kernel_rfl) rfl rfl rfl (by omega)) ?_
  first | refine LW.q rfl (Qt.load (by kernel_rfl) rfl rfl) ?_ | refine LW.q rfl (Qt.load (by kernel_rfl) rfl (map_at _ _ _ (by omega))) ?_ | refine LW.q rfl (Qt.load (by kernel_rfl) rfl (flat_cell0 _ _ _ (by intros; rfl) _ (by omega) (by rfl))) ?_ | refine LW.q rfl (Qt.load (by kernel_rfl) rfl (flat_cell _ _ _ (by intros; rfl) _ _ (by omega) (by rfl))) ?_ | refine LW.q rfl (Qt.load (by kernel_rfl) rfl (bytes_at _ _ (by omega))) ?_
  refine LW.q rfl (Qt.eql rfl rfl) ?_
  refine LW.q rfl (Qt.pick rfl rfl) ?_
  refine LW.q rfl (Qt.move rfl) ?_
  first | refine LW.gT (t := 80) rfl rfl ?_ | refine LW.gT (t := 80) rfl (decide_eq_true (by omega)) ?_ | refine LW.gT (t := 80) rfl (by omega) ?_
  refine LW.q rfl (Qt.move rfl) ?_
  refine LW.q rfl (Qt.nilCheck rfl) ?_
  refine LW.q rfl (Qt.fieldAddr (off := 2) (by kernel_rfl) rfl) ?_
  first | refine LW.q rfl (Qt.load (by kernel_rfl) rfl rfl) ?_ | refine LW.q rfl (Qt.load (by kernel_rfl) rfl (map_at _ _ _ (by omega))) ?_ | refine LW.q rfl (Qt.load (by kernel_rfl) rfl (flat_cell0 _ _ _ (by intros; rfl) _ (by omega) (by rfl))) ?_ | refine LW.q rfl (Qt.load (by kernel_rfl) rfl (flat_cell _ _ _ (by intros; rfl) _ _ (by omega) (by rfl))) ?_ | refine LW.q rfl (Qt.load (by kernel_rfl) rfl (bytes_at _ _ (by omega))) ?_
  refine LW.e rfl (Ef.call (Bf.pin_full B g b gf 1 4 8 0 pl 1 cl [fmNew 3 (some ⟨gy, 0, none⟩) cy (List.replicate 256 0)] 2 (by omega) (by omega) rfl (by omega) (fun k y hk => by rw [one_at hk]; show (3 : Int) ≠ 2; decide) (fun k y hk => by rw [one_at hk]; exact ⟨show (0 : Int) ≤ 3 by omega, show (0 : Int) < 1 by omega⟩)) Tryd.func15 rfl rfl rfl ?_)
  rintro _ _ ⟨rfl, rfl⟩
  try simp only [List.cons_append, List.nil_append]
  refine LW.q rfl (Qt.eql rfl rfl) ?_
  refine LW.q rfl (Qt.pick rfl rfl) ?_
  refine LW.q rfl (Qt.move rfl) ?_
  first | refine LW.gT (t := 88) rfl rfl ?_ | refine LW.gT (t := 88) rfl (decide_eq_true (by omega)) ?_ | refine LW.gT (t := 88) rfl (by omega) ?_
  refine LW.q rfl (Qt.move rfl) ?_
  refine LW.q rfl (Qt.nilCheck rfl) ?_
  refine LW.q rfl (Qt.fieldAddr (off := 2) (by kernel_rfl) rfl) ?_
  first | refine LW.q rfl (Qt.load (by kernel_rfl) rfl rfl) ?_ | refine LW.q rfl (Qt.load (by kernel_rfl) rfl (map_at _ _ _ (by omega))) ?_ | refine LW.q rfl (Qt.load (by kernel_rfl) rfl (flat_cell0 _ _ _ (by intros; rfl) _ (by omega) (by rfl))) ?_ | refine LW.q rfl (Qt.load (by kernel_rfl) rfl (flat_cell _ _ _ (by intros; rfl) _ _ (by omega) (by rfl))) ?_ | refine LW.q rfl (Qt.load (by kernel_rfl) rfl (bytes_at _ _ (by omega))) ?_
  refine LW.q rfl (Qt.nilCheck rfl) ?_
  refine LW.q rfl (Qt.fieldAddr0 (by kernel_rfl) rfl) ?_
  refine LW.e rfl (Ef.call (Bf.pages B g b gf 1 4 8 0 pl 1 cl) Tryd.func12 rfl rfl rfl ?_)
  rintro _ _ ⟨rfl, rfl⟩
  try simp only [List.cons_append, List.nil_append]
  refine LW.q rfl (Qt.eql rfl rfl) ?_
  refine LW.q rfl (Qt.pick rfl rfl) ?_
  refine LW.q rfl (Qt.assign rfl) ?_
  refine LW.done ?_
  refine T.ret ?_
  exact ⟨.inl rfl, _, _, res [_] rfl ⟨rvT rfl, trivial⟩, ⟨rfl, rfl⟩, Sub.any⟩
end Go.Proofs.YtegohgaccmkigaaDoor
