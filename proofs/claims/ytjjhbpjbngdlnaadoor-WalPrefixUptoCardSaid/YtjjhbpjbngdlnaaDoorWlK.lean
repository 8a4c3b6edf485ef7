/- The statements of the package wal: awake. Conditions: none. -/
import Derived.Test.YtjjhbpjbngdlnaaDoorWlJ
set_option linter.unusedSimpArgs false
set_option linter.unusedVariables false
namespace Go.Proofs.YtjjhbpjbngdlnaaDoor
open Go.RowKit

/-- What Open leaves where the disk holds the text of the records ds. -/
def OpenTx (b first count : Nat) (ds : List (List UInt8)) (D : DD) (u : Value) (l : List Assn) : Prop := ∃ g q cq R D', R.map (fun x : WRec => (x.mark, x.r.b)) = logR 0 ds ∧ D'.Ok ∧ D'.secs.length = D.secs.length ∧ D'.pend = [] ∧ Secs D' first count (logB 0 0 ds) ∧
  (∀ x, x < D.secs.length → (x < first ∨ first + count ≤ x) → D'.read x = D.read x) ∧
  u = .tuple #[.pointer (some ⟨g, 0, none⟩), .slice q ds.length cq, .int .i64 0] ∧ l = [wrecR q ds.length cq R, recsA (R.map WRec.r), wlA g b (mkW first count ds (logB 0 0 ds).length), dskA b D']
theorem Wl.openText (B : Base) (b : Nat) (D : DD) (first count : Nat) (ds : List (List UInt8)) (i j : Int) (hi : i = first) (hj : j = count) (h1 : 1 ≤ count) (hD : first + count ≤ D.secs.length) (hroom : D.pend.length + 4096 < 2 ^ 32) (hs : Secs D first count (logB 0 0 ds)) (hok : ∀ d ∈ ds, OkD d) (hl : (logB 0 0 ds).length ≤ count * 256) :
    Fn Tryd.prog B 25 #[.pointer (some ⟨b, 0, none⟩), .int .i64 i, .int .i64 j] [dskA b D] (OpenTx b first count ds D) := by
  refine (Wl.openAny B b D first count i j hi hj h1 hD hroom).mono fun u l h => ?_
  obtain ⟨g, q, cq, R, ds', D', e1, e2, e3, e4, e5, e6, e7, e8, e9, e10, e11⟩ := h
  rw [all_text hs hl, scan_text ds _ _ (by have := length_logB_le 0 0 ds; omega) hok] at e9
  injection e9 with f1 f2
  injection f2 with f2 f3
  have : ds' = ds := by rw [← logR_snd 0 ds', f3, logR_snd]
  subst this
  exact ⟨g, q, cq, R, D', e2, e3, e4, e5, e6, e8, e10, e11⟩
theorem rec0 {R : List WRec} (h : R.map (fun x : WRec => (x.mark, x.r.b)) = logR 0 []) : R = [] := by simpa [logR] using h
theorem rec1 {R : List WRec} {d : List UInt8} {n : Nat} (hn : 8 + d.length = n) (h : R.map (fun x : WRec => (x.mark, x.r.b)) = logR 0 [d]) : ∃ p c, R = [⟨n, p, c, d⟩] := by
  match R, h with
  | [], h => simp [logR] at h
  | [⟨m, p, c, d'⟩], h =>
    simp [logR] at h
    obtain ⟨h1, rfl⟩ := h
    exact ⟨p, c, by congr 1; congr 1; omega⟩
  | _ :: _ :: _, h => simp [logR] at h
theorem flushed_mk (first count : Nat) (ds : List (List UInt8)) (dur : Nat) : (mkW first count ds dur).flushed = mkW first count ds (logB 0 0 ds).length := rfl
theorem PartsV.blk2 {B : Base} {L : List Assn} {g : Nat} {v1 v2 : Value} {b1 b2 : List UInt8} (h1 : RdV B L v1 (bytesV b1)) (h2 : RdV B L v2 (bytesV b2)) [k : Rd B g L [v1, v2]] : PartsV B L (.slice (some ⟨g, 0, none⟩) 2 2) [b1, b2] := by
  refine ⟨[v1, v2], ⟨_, 2, rfl, .inr ⟨g, 0, rfl, fun w ho => ho.range (g := g) (C := [v1, v2]) (fun j u hj => by rw [Nat.zero_add]; exact hj)⟩⟩, rfl, fun i i1 i2 => ?_⟩
  match i, i1 with
  | 0, _ => exact h1
  | 1, _ => exact h2

abbrev abcW : List UInt8 := [97, 98, 99]
set_option maxHeartbeats 4000000 in
set_option maxRecDepth 100000 in
theorem Wl.awake (B : Base) : Fn Tryd.prog B 23 #[] [] (fun v l => v = .bool true ∧ l = []) := by
  refine Fn.enter0 88 Tryd.func23 rfl rfl (Nat.le_of_ble_eq_true rfl) (fun F => ?_)
  try simp only [List.cons_append, List.nil_append]
  refine T.seq ?_
  refine T.region ?_
  refine LW.q rfl (Qt.assign rfl) ?_
  refine LW.done ?_
  refine T.seq ?_
  refine T.region ?_
  refine LW.e rfl (Ef.call (Dk.newF B 4 4 rfl (by omega) (by omega)) Tryd.func24 rfl rfl rfl ?_)
  rintro _ _ ⟨b, rfl, rfl⟩
  try simp only [List.cons_append, List.nil_append]
  refine LW.q rfl (Qt.move rfl) ?_
  refine LW.q rfl (Qt.extract rfl rfl) ?_
  refine LW.q rfl (Qt.extract rfl rfl) ?_
  refine LW.q rfl (Qt.assign rfl) ?_
  refine LW.q rfl (Qt.assign rfl) ?_
  refine LW.done ?_
  refine T.seq ?_
  refine T.seq ?_
  refine T.region ?_
  refine LW.q rfl (Qt.move rfl) ?_
  first | refine LW.q rfl (Qt.eqlNil (by kernel_rfl) rfl rfl) ?_ | refine LW.q rfl (Qt.eqlNN (by kernel_rfl) rfl rfl) ?_
  refine LW.done ?_
  first | refine T.condF rfl ?_ | refine T.condPF rfl (by omega) ?_ | refine T.condBF rfl (by omega) ?_
  refine T.skip ?_
  refine T.seq ?_
  refine T.region ?_
  refine LW.q rfl (Qt.move rfl) ?_
  refine LW.e rfl (Ef.call (Wl.openText B b ⟨List.replicate 4 zs, []⟩ 1 2 [] 1 2 rfl rfl (by omega) (by simp) (by simp) (Secs.new (by omega)) (by simp) (by simp [logB])) Tryd.func25 rfl rfl rfl ?_)
  rintro _ _ ⟨g, q, cq, R, D1, e1, e2, e3, e4, e5, e6, rfl, rfl⟩
  try simp only [List.cons_append, List.nil_append]
  obtain rfl := rec0 e1
  refine LW.q rfl (Qt.move rfl) ?_
  refine LW.q rfl (Qt.extract rfl rfl) ?_
  refine LW.q rfl (Qt.extract rfl rfl) ?_
  refine LW.q rfl (Qt.extract rfl rfl) ?_
  refine LW.q rfl (Qt.assign rfl) ?_
  refine LW.q rfl (Qt.assign rfl) ?_
  refine LW.q rfl (Qt.assign rfl) ?_
  refine LW.done ?_
  refine T.seq ?_
  refine T.seq ?_
  refine T.region ?_
  refine LW.q rfl (Qt.move rfl) ?_
  first | refine LW.q rfl (Qt.eqlNil (by kernel_rfl) rfl rfl) ?_ | refine LW.q rfl (Qt.eqlNN (by kernel_rfl) rfl rfl) ?_
  refine LW.q rfl (Qt.move rfl) ?_
  first | refine LW.gF (t := 22) rfl rfl ?_ | refine LW.gF (t := 22) rfl (decide_eq_false (by omega)) ?_ | refine LW.gF (t := 22) rfl (by omega) ?_
  refine LW.q rfl (Qt.move rfl) ?_
  refine LW.q rfl (Qt.len (e := 59) (sz := 2) (by kernel_rfl) rfl) ?_
  refine LW.q rfl (Qt.neq rfl rfl) ?_
  refine LW.q rfl (Qt.pick rfl rfl) ?_
  refine LW.q rfl (Qt.move rfl) ?_
  first | refine LW.gF (t := 27) rfl rfl ?_ | refine LW.gF (t := 27) rfl (decide_eq_false (by omega)) ?_ | refine LW.gF (t := 27) rfl (by omega) ?_
  refine LW.q rfl (Qt.move rfl) ?_
  refine LW.q rfl (Qt.neq rfl rfl) ?_
  refine LW.q rfl (Qt.pick rfl rfl) ?_
  refine LW.done ?_
  first | refine T.condF rfl ?_ | refine T.condPF rfl (by omega) ?_ | refine T.condBF rfl (by omega) ?_
  have hl0 : D1.secs.length = 4 := by rw [e3]; rfl
  refine T.skip ?_
  refine T.seq ?_
  refine T.region ?_
  refine LW.q rfl (Qt.move rfl) ?_
  refine LW.e rfl (Ef.lit [_, _] (e := 5) (by kernel_rfl) (by kernel_rfl) rfl (by simp [Value.cells]) rfl (by omega) (by omega) ?_)
  intro g33
  refine LW.e rfl (Ef.mark (by kernel_rfl) rfl ?_)
  refine LW.e rfl (Ef.one [_] (e := 5) (sz := 1) (by kernel_rfl) ⟨.int .u8 0, by kernel_rfl, rfl⟩ rfl rfl rfl (by omega) (by omega) ?_)
  intro g35
  refine LW.e rfl (Ef.mark (by kernel_rfl) rfl ?_)
  refine LW.e rfl (Ef.lit [_, _] (e := 22) (by kernel_rfl) (by kernel_rfl) rfl (by simp [Value.cells]) rfl (by omega) (by omega) ?_)
  intro g37
  refine LW.e rfl (Ef.call (Wl.add B [blk g37 [.slice (some ⟨g33, 0, none⟩) 2 2, .slice (some ⟨g35, 0, none⟩) 1 1] 22, fblk g33 [.int .u8 97, .int .u8 98] 5 (2, 3), fblk g35 [.int .u8 99] 5 (1, 2)] g b (mkW 1 2 [] (logB 0 0 []).length) (some ⟨g37, 0, none⟩) 2 [[97, 98], [99]] 2 rfl (PartsV.blk2 (rdv_blk (C := [.int .u8 97, .int .u8 98]) rfl rfl) (rdv_blk (C := [.int .u8 99]) rfl rfl)) (by simp) (by simp) abcW rfl (by simp) (by simp [mkW]) (by simp [mkW, logB])) Tryd.func26 rfl rfl rfl ?_)
  rintro _ _ ⟨rfl, rfl⟩
  try simp only [List.cons_append, List.nil_append]
  rw [addW_mk (d := abcW) (by decide) (by simp [logB])]
  simp only [List.nil_append, show (logB 0 0 []).length = 0 from rfl]
  refine LW.q rfl (Qt.move rfl) ?_
  refine LW.q rfl (Qt.extract rfl rfl) ?_
  refine LW.q rfl (Qt.extract rfl rfl) ?_
  refine LW.q rfl (Qt.assign rfl) ?_
  refine LW.q rfl (Qt.assign rfl) ?_
  refine LW.done ?_
  refine T.seq ?_
  refine T.region ?_
  refine LW.q rfl (Qt.move rfl) ?_
  have hL : (logB 0 0 [abcW]).length = 11 := by simp [logB, length_recB]
  obtain ⟨f1, f2, f3⟩ := flushE_ok (W := mkW 1 2 [abcW] 0) e2 (by simp [mkW]; omega) (by simp only [mkW]; omega) (Nat.zero_le _) e4
  have f4 := flushE_secs (W := mkW 1 2 [abcW] 0) e2 (by simp [mkW]; omega) e5 (Nat.zero_le _) (by simp only [mkW]; omega)
  obtain ⟨D2, hD2⟩ : ∃ D2, flushE (mkW 1 2 [abcW] 0) D1 = D2 := ⟨_, rfl⟩
  rw [hD2] at f1 f2 f3 f4
  refine LW.e rfl (Ef.call (Wl.flush B g b (mkW 1 2 [abcW] 0) D1 (by simp [mkW]; omega) (by omega) (by simp only [mkW]; omega) (Nat.zero_le _) (by rw [e4]; simp)) Tryd.func27 rfl rfl rfl ?_)
  rintro _ _ ⟨rfl, rfl⟩
  try simp only [List.cons_append, List.nil_append]
  rw [hD2, flushed_mk]
  refine LW.done ?_
  refine T.seq ?_
  refine T.region ?_
  refine LW.q rfl (Qt.move rfl) ?_
  refine LW.e rfl (Ef.one [_] (e := 5) (sz := 1) (by kernel_rfl) ⟨.int .u8 0, by kernel_rfl, rfl⟩ rfl rfl rfl (by omega) (by omega) ?_)
  intro g44
  refine LW.e rfl (Ef.mark (by kernel_rfl) rfl ?_)
  refine LW.e rfl (Ef.one [_] (e := 22) (sz := 1) (by kernel_rfl) ⟨.slice none 0 0, by kernel_rfl, rfl⟩ rfl rfl rfl (by omega) (by omega) ?_)
  intro g46
  refine LW.e rfl (Ef.call (Wl.add B [blk g46 [.slice (some ⟨g44, 0, none⟩) 1 1] 22, fblk g44 [.int .u8 120] 5 (1, 2)] g b (mkW 1 2 [abcW] (logB 0 0 [abcW]).length) (some ⟨g46, 0, none⟩) 1 [[120]] 1 rfl (PartsV.one (rdv_blk (C := [.int .u8 120]) rfl rfl)) (by simp) (by simp) [120] rfl (by simp) (by simp [mkW]) (by simp only [mkW]; omega)) Tryd.func26 rfl rfl rfl ?_)
  rintro _ _ ⟨rfl, rfl⟩
  try simp only [List.cons_append, List.nil_append]
  refine LW.done ?_
  refine T.seq ?_
  refine T.region ?_
  refine LW.q rfl (Qt.move rfl) ?_
  refine LW.e rfl (Ef.call (Dk.crashF B b D2 (.slice none 0 0) [] (-1) 0 ⟨none, 0, rfl, .inl rfl⟩ (by rw [f3]; simp)) Tryd.func37 rfl rfl rfl ?_)
  rintro _ _ ⟨rfl, rfl⟩
  try simp only [List.cons_append, List.nil_append]
  rw [DD.crash_nil f3]
  refine LW.done ?_
  refine T.seq ?_
  refine T.region ?_
  refine LW.q rfl (Qt.move rfl) ?_
  refine LW.e rfl (Ef.call (Wl.openText B b D2 1 2 [abcW] 1 2 rfl rfl (by omega) (by omega) (by rw [f3]; simp) f4 (by decide) (by omega)) Tryd.func25 rfl rfl rfl ?_)
  rintro _ _ ⟨g2, q2, cq2, R2, D3, k1, k2, k3, k4, k5, k6, rfl, rfl⟩
  try simp only [List.cons_append, List.nil_append]
  obtain ⟨p3, c3, rfl⟩ := rec1 (n := 11) rfl k1
  rw [show [abcW].length = 1 from rfl]
  refine LW.own (fun w ho => ?_)
  obtain ⟨gq, rfl⟩ : ∃ gq, q2 = some ⟨gq, 0, none⟩ := (ho.slice_at (p := q2) (m := 1) (c := cq2)).2.1 (by omega)
  have hro : RecOk (List.map WRec.r [⟨11, p3, c3, abcW⟩]) := ho.tl.recOk
  clear ho
  refine LW.q rfl (Qt.move rfl) ?_
  refine LW.q rfl (Qt.extract rfl rfl) ?_
  refine LW.q rfl (Qt.extract rfl rfl) ?_
  refine LW.q rfl (Qt.extract rfl rfl) ?_
  refine LW.q rfl (Qt.assign rfl) ?_
  refine LW.q rfl (Qt.assign rfl) ?_
  refine LW.done ?_
  refine T.seq ?_
  refine T.region ?_
  refine LW.q rfl (Qt.move rfl) ?_
  refine LW.q rfl (Qt.eql rfl rfl) ?_
  refine LW.q rfl (Qt.move rfl) ?_
  first | refine LW.gT (t := 58) rfl rfl ?_ | refine LW.gT (t := 58) rfl (decide_eq_true (by omega)) ?_ | refine LW.gT (t := 58) rfl (by omega) ?_
  refine LW.q rfl (Qt.move rfl) ?_
  refine LW.q rfl (Qt.eql rfl rfl) ?_
  refine LW.q rfl (Qt.pick rfl rfl) ?_
  refine LW.q rfl (Qt.move rfl) ?_
  first | refine LW.gT (t := 62) rfl rfl ?_ | refine LW.gT (t := 62) rfl (decide_eq_true (by omega)) ?_ | refine LW.gT (t := 62) rfl (by omega) ?_
  refine LW.q rfl (Qt.move rfl) ?_
  refine LW.q rfl (Qt.eql rfl rfl) ?_
  refine LW.q rfl (Qt.pick rfl rfl) ?_
  refine LW.q rfl (Qt.move rfl) ?_
  first | refine LW.gT (t := 66) rfl rfl ?_ | refine LW.gT (t := 66) rfl (decide_eq_true (by omega)) ?_ | refine LW.gT (t := 66) rfl (by omega) ?_
  refine LW.q rfl (Qt.move rfl) ?_
  refine LW.q rfl (Qt.len (e := 59) (sz := 2) (by kernel_rfl) rfl) ?_
  refine LW.q rfl (Qt.eql rfl rfl) ?_
  refine LW.q rfl (Qt.pick rfl rfl) ?_
  refine LW.q rfl (Qt.move rfl) ?_
  first | refine LW.gT (t := 71) rfl rfl ?_ | refine LW.gT (t := 71) rfl (decide_eq_true (by omega)) ?_ | refine LW.gT (t := 71) rfl (by omega) ?_
  refine LW.q rfl (Qt.move rfl) ?_
  refine LW.q rfl (Qt.index 0 (e := 59) (sz := 2) (by kernel_rfl) rfl rfl rfl (by omega)) ?_
  refine LW.q rfl (Qt.fieldAddr (off := 1) (by kernel_rfl) rfl) ?_
  first | refine LW.q rfl (Qt.load (by kernel_rfl) rfl rfl) ?_ | refine LW.q rfl (Qt.load (by kernel_rfl) rfl (map_at _ _ _ (by omega))) ?_ | refine LW.q rfl (Qt.load (by kernel_rfl) rfl (flat_cell0 _ _ _ (by intros; rfl) _ (by omega) (by rfl))) ?_ | refine LW.q rfl (Qt.load (by kernel_rfl) rfl (flat_cell _ _ _ (by intros; rfl) _ _ (by omega) (by rfl))) ?_ | refine LW.q rfl (Qt.load (by kernel_rfl) rfl (bytes_at _ _ (by omega))) ?_
  refine LW.q rfl (Qt.str abcW (by kernel_rfl) (by kernel_rfl) rfl (fun w ho => (RdV.rec hro (j := 0) (by simp)).reads w (ho.map Sub.any))) ?_
  refine LW.q rfl (Qt.eqlS rfl rfl) ?_
  refine LW.q rfl (Qt.pick rfl rfl) ?_
  refine LW.q rfl (Qt.move rfl) ?_
  first | refine LW.gT (t := 79) rfl rfl ?_ | refine LW.gT (t := 79) rfl (decide_eq_true (by omega)) ?_ | refine LW.gT (t := 79) rfl (by omega) ?_
  refine LW.q rfl (Qt.move rfl) ?_
  refine LW.q rfl (Qt.index 0 (e := 59) (sz := 2) (by kernel_rfl) rfl rfl rfl (by omega)) ?_
  refine LW.q rfl (Qt.fieldAddr0 (by kernel_rfl) rfl) ?_
  first | refine LW.q rfl (Qt.load (by kernel_rfl) rfl rfl) ?_ | refine LW.q rfl (Qt.load (by kernel_rfl) rfl (map_at _ _ _ (by omega))) ?_ | refine LW.q rfl (Qt.load (by kernel_rfl) rfl (flat_cell0 _ _ _ (by intros; rfl) _ (by omega) (by rfl))) ?_ | refine LW.q rfl (Qt.load (by kernel_rfl) rfl (flat_cell _ _ _ (by intros; rfl) _ _ (by omega) (by rfl))) ?_ | refine LW.q rfl (Qt.load (by kernel_rfl) rfl (bytes_at _ _ (by omega))) ?_
  refine LW.q rfl (Qt.eql rfl rfl) ?_
  refine LW.q rfl (Qt.pick rfl rfl) ?_
  refine LW.q rfl (Qt.move rfl) ?_
  refine LW.q rfl (Qt.pick rfl rfl) ?_
  refine LW.q rfl (Qt.assign rfl) ?_
  refine LW.done ?_
  refine T.ret ?_
  exact ⟨.inl rfl, _, _, res [_] rfl ⟨rvT rfl, trivial⟩, ⟨rfl, rfl⟩, Sub.any⟩
end Go.Proofs.YtjjhbpjbngdlnaaDoor
