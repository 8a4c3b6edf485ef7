/- The law HeapKeeps of annalslaw08 holds (its card): for all arguments of bulk at most 1048576 the call returns true and the arguments read as before. Condition: the bound of the second form. -/
import Derived.Test.YtiooeiapplnafaaGreatDoorZHeBase15
/- The statement HeapFirst. Conditions: that what is handed in can be read; sizes. -/
set_option linter.unusedSimpArgs false
set_option linter.unusedVariables false
namespace Go.Proofs.YtiooeiapplnafaaGreatDoor
open Go.RowKit
section
variable (d : List UInt8)
abbrev fE1 : En := ⟨1, 1, 0, 0, 0, d⟩
abbrev fE2 : En := ⟨3, 1, 0, 0, 1, []⟩
abbrev fE3 (t : Int) : En := ⟨2, t, 0, 0, 0, []⟩
abbrev fE4 (t : Int) : En := ⟨3, t, 0, 0, 2, []⟩
abbrev fU : Int := 0 + ((20 + d.length : Nat) : Int)
abbrev fS1 : HR := ⟨7, 2304, 0, [], [1], [], 1, []⟩
abbrev fS2 : HR := ⟨7, 2304, fU d, [⟨0, 0, 1, 0, d⟩], [1], [], 1, [fE1 d]⟩
abbrev fS4 : HR := ⟨7, 2304, fU d, [⟨0, 0, 1, 0, d⟩], [1, 2, 3], [], 3, [fE1 d]⟩
abbrev fS5 : HR := ⟨7, 2304, fU d + 25, [⟨0, 0, 1, 0, d⟩], [2, 3], [(1, 1)], 3, [fE1 d, fE2]⟩
abbrev fS6 : HR := ⟨7, 2304, fU d + 25 + 20, [⟨0, 0, 1, 2, d⟩], [2, 3], [(1, 1)], 3, [fE1 d, fE2, fE3 2]⟩
theorem sz3 (t s : Int) : enSz ⟨3, t, 0, 0, s, []⟩ = 25 := by rw [enSz_eq]; rfl
theorem sz2 (t p s : Int) : enSz ⟨2, t, p, s, 0, []⟩ = 20 := by rw [enSz_eq]; rfl
theorem hAdd_ok {h : HR} {t : Int} {q : Nat} (ha : isAct h t = true) (hl : d.length ≤ 184) (hr : roomyP h d.length = some q) (hu : h.used + 20 + d.length ≤ h.room) : addR' h t d = (writeR h (addE h t d q), (q : Int), ((pageV h.vs q).length : Int), 0) := by
  unfold addR'
  rw [if_pos ha, if_neg (by omega), hr]
  dsimp only
  rw [if_neg (by omega)]
theorem hAdd_long {h : HR} {t : Int} (ha : isAct h t = true) (hl : 184 < d.length) : addR' h t d = (h, 0, 0, 2) := by
  unfold addR'
  rw [if_pos ha, if_pos hl]
theorem hCm_ok {h : HR} {t s : Int} (ha : isAct h t = true) (hb : badStamp h s = false) (hu : h.used + 25 ≤ h.room) : commitR h t s = (writeR (withoutR h t) (cmE t s), 0) := by
  unfold commitR
  rw [if_pos ha, if_neg (by rw [hb]; simp), if_neg (by omega)]
theorem hEnd_ok {h : HR} {t p s : Int} {v : Ver} (ha : isAct h t = true) (hv : (findV h.vs p s).bind (h.vs[·]?) = some v) (h1 : ¬ ((v.beg ≠ t ∧ isCm h v.beg = false) ∨ v.fin = t ∨ isCm h v.fin = true)) (h2 : isAct h v.fin = false) (hu : h.used + 20 ≤ h.room) : endR h t p s = (writeR h (endE t p s), 0) := by
  unfold endR
  rw [if_pos ha, hv]
  dsimp only
  rw [if_neg h1, if_neg (by rw [h2]; simp), if_neg (by omega)]
theorem hEnd_busy {h : HR} {t p s : Int} {v : Ver} (ha : isAct h t = true) (hv : (findV h.vs p s).bind (h.vs[·]?) = some v) (h1 : ¬ ((v.beg ≠ t ∧ isCm h v.beg = false) ∨ v.fin = t ∨ isCm h v.fin = true)) (h2 : isAct h v.fin = true) : endR h t p s = (h, 71) := by
  unfold endR
  rw [if_pos ha, hv]
  dsimp only
  rw [if_neg h1, if_pos h2]
theorem hEnd_no {h : HR} {t p s : Int} {v : Ver} (ha : isAct h t = true) (hv : (findV h.vs p s).bind (h.vs[·]?) = some v) (h1 : ((v.beg ≠ t ∧ isCm h v.beg = false) ∨ v.fin = t ∨ isCm h v.fin = true)) : endR h t p s = (h, 4) := by
  unfold endR
  rw [if_pos ha, hv]
  dsimp only
  rw [if_pos h1]
theorem f1 : beginR (newR 7 (9 * 256)) = fS1 := rfl
theorem f2 (h : d.length ≤ 184) : addR' fS1 1 d = (fS2 d, 0, 0, 0) := by
  have h1 : roomyP fS1 d.length = some 0 := by
    unfold roomyP
    rw [show List.range fS1.pages = [0, 1, 2, 3, 4, 5, 6] from rfl]
    rw [List.find?_cons_of_pos (by have : usedP [] 0 = 13 := rfl; simp only [decide_eq_true_eq]; omega)]
  rw [hAdd_ok d rfl h h1 (by show (0 : Int) + 20 + d.length ≤ (2304 : Nat); omega)]
  simp only [writeR, enSz_eq, addE]
  rfl
theorem f2no (h : 184 < d.length) : addR' fS1 1 d = (fS1, 0, 0, 2) := hAdd_long d rfl h
theorem f3 : beginR (beginR (fS2 d)) = fS4 d := rfl
theorem f4 : endR (fS4 d) 2 0 0 = (fS4 d, 4) := hEnd_no rfl (v := ⟨0, 0, 1, 0, d⟩) rfl (.inl ⟨(by show (1 : Int) ≠ 2; decide), rfl⟩)
theorem f5 (h : d.length ≤ 184) : commitR (fS4 d) 1 1 = (fS5 d, 0) := by
  rw [hCm_ok rfl rfl (by show fU d + 25 ≤ (2304 : Nat); unfold fU; omega)]
  simp only [writeR, sz3]
  rfl
theorem f6 (h : d.length ≤ 184) : endR (fS5 d) 2 0 0 = (fS6 d, 0) := by
  rw [hEnd_ok rfl (v := ⟨0, 0, 1, 0, d⟩) rfl (fun h => by simp [isCm] at h) rfl (by show fU d + 25 + 20 ≤ (2304 : Nat); unfold fU; omega)]
  simp only [writeR, sz2]
  rfl
theorem f7 : endR (fS6 d) 3 0 0 = (fS6 d, 71) := hEnd_busy rfl (v := ⟨0, 0, 1, 2, d⟩) rfl (fun h => by simp [isCm] at h) rfl
abbrev fS7 : HR := ⟨7, 2304, fU d + 25 + 20, [⟨0, 0, 1, 2, d⟩], [3], [(1, 1)], 3, [fE1 d, fE2, fE3 2]⟩
abbrev fS8 : HR := ⟨7, 2304, fU d + 25 + 20 + 20, [⟨0, 0, 1, 3, d⟩], [3], [(1, 1)], 3, [fE1 d, fE2, fE3 2, fE3 3]⟩
abbrev fS9 : HR := ⟨7, 2304, fU d + 25 + 20 + 20 + 25, [⟨0, 0, 1, 3, d⟩], [], [(1, 1), (3, 2)], 3, [fE1 d, fE2, fE3 2, fE3 3, fE4 3]⟩
abbrev fSA : HR := ⟨7, 2304, fU d + 25 + 20 + 25, [⟨0, 0, 1, 2, d⟩], [3], [(1, 1), (2, 2)], 3, [fE1 d, fE2, fE3 2, fE4 2]⟩
theorem f8 : abortR (fS6 d) 2 = (fS7 d, 0) := by unfold abortR; rw [if_pos (show isAct (fS6 d) 2 = true from rfl)]; rfl
theorem f9 (h : d.length ≤ 184) : endR (fS7 d) 3 0 0 = (fS8 d, 0) := by
  rw [hEnd_ok rfl (v := ⟨0, 0, 1, 2, d⟩) rfl (fun h => by simp [isCm] at h) rfl (by show fU d + 25 + 20 + 20 ≤ (2304 : Nat); unfold fU; omega)]
  simp only [writeR, sz2]
  rfl
theorem fA (h : d.length ≤ 184) : commitR (fS8 d) 3 2 = (fS9 d, 0) := by
  rw [hCm_ok rfl rfl (by show fU d + 25 + 20 + 20 + 25 ≤ (2304 : Nat); unfold fU; omega)]
  simp only [writeR, sz3]
  rfl
theorem fB : allR (fS9 d) = [⟨0, 0, 1, 3, d⟩] := rfl
theorem fC (h : d.length ≤ 184) : commitR (fS6 d) 2 2 = (fSA d, 0) := by
  rw [hCm_ok rfl rfl (by show fU d + 25 + 20 + 25 ≤ (2304 : Nat); unfold fU; omega)]
  simp only [writeR, sz3]
  rfl
theorem fD : endR (fSA d) 3 0 0 = (fSA d, 4) := hEnd_no rfl (v := ⟨0, 0, 1, 2, d⟩) rfl (.inr (.inr rfl))
theorem fE : allR (fSA d) = [⟨0, 0, 1, 2, d⟩] := rfl
end
set_option maxHeartbeats 4000000 in
set_option maxRecDepth 100000 in
theorem Hp.first (B : Base) (vb : Value) (d : List UInt8) (hb : RoS B vb (bytesV d)) (hlb : d.length ≤ 1048576) (ab : Bool) : Fn Tryz.prog B 4 #[vb, .bool ab] [] (fun v l => v = .bool true ∧ l = []) := by
 obtain ⟨ba, bc, rfl⟩ := (hb.rd []).form (m := d.length) (by simp)
 refine Fn.enter2 130 Tryz.func4 rfl rfl (Nat.le_of_ble_eq_true rfl) (fun F => ?_)
 try simp only [List.cons_append, List.nil_append]
 refine T.seq ?_
 refine T.region ?_
 refine LW.q rfl (Qt.assign rfl) ?_
 refine LW.done ?_
 refine T.seq ?_
 refine T.seq ?_
 refine T.region ?_
 refine LW.e rfl (Ef.call (Hp.awake B) Tryz.func15 rfl rfl rfl ?_)
 rintro _ _ ⟨rfl, rfl⟩
 try simp only [List.cons_append, List.nil_append]
 refine LW.q rfl (Qt.notB rfl) ?_
 refine LW.done ?_
 refine T.condF rfl ?_
 refine T.skip ?_
 refine T.seq ?_
 refine T.region ?_
 refine LW.e rfl (Ef.call (Hp.opened B 16 9 7 2 16 9 2 rfl rfl rfl (by omega) (by omega) rfl (by omega) (by omega) (by omega)) Tryz.func16 rfl rfl rfl ?_)
 rintro _ _ ⟨b, g, rfl, rfl⟩
 try simp only [List.cons_append, List.nil_append]
 refine LW.q rfl (Qt.move rfl) ?_
 refine LW.q rfl (Qt.extr rfl rfl) ?_
 refine LW.q rfl (Qt.extr rfl rfl) ?_
 refine LW.q rfl (Qt.extr rfl rfl) ?_
 refine LW.q rfl (Qt.assign rfl) ?_
 refine LW.q rfl (Qt.assign rfl) ?_
 refine LW.q rfl (Qt.assign rfl) ?_
 refine LW.done ?_
 refine T.seq ?_
 refine T.seq ?_
 refine T.region ?_
 refine LW.q rfl (Qt.move rfl) ?_
 refine LW.q rfl (Qt.eqlNil (by kernel_rfl) rfl rfl) ?_
 refine LW.done ?_
 refine T.condF rfl ?_
 refine T.skip ?_
 refine T.seq ?_
 refine T.region ?_
 refine LW.q rfl (Qt.move rfl) ?_
 refine LW.q rfl (Qt.nilCheck rfl) ?_
 refine LW.q rfl (Qt.fieldAddr0 (by kernel_rfl) rfl) ?_
 refine LW.e rfl (Ef.call (Hp.begin B g b 9 7 2 7 (newR 7 (9 * 256)) (by omega)) Tryz.func17 rfl rfl rfl ?_)
 rintro _ _ ⟨rfl, rfl⟩
 try simp only [List.cons_append, List.nil_append]
 rw [f1, show (newR 7 (9 * 256)).last + 1 = 1 from rfl]
 refine LW.q rfl (Qt.assign rfl) ?_
 refine LW.done ?_
 refine T.seq ?_
 refine T.region ?_
 refine LW.q rfl (Qt.move rfl) ?_
 refine LW.q rfl (Qt.move rfl) ?_
 refine LW.q rfl (Qt.move rfl) ?_
 refine LW.e rfl (Ef.call (Hp.add B [] g b 9 7 2 8 fS1 (by omega) 1 ba bc d (hb.rd _) (by omega)) Tryz.func18 rfl rfl rfl ?_)
 rintro _ _ ⟨rfl, rfl⟩
 try simp only [List.cons_append, List.nil_append]
 by_cases hd : 184 < d.length
 ·
  rw [f2no d hd]
  refine LW.q rfl (Qt.move rfl) ?_
  refine LW.q rfl (Qt.extr rfl rfl) ?_
  refine LW.q rfl (Qt.extr rfl rfl) ?_
  refine LW.e rfl (Ef.alloc [.int .i64 0, .int .i64 0] (by unfold zeroB; kernel_rfl) ?_)
  intro g9
  refine LW.e0 rfl (Ef.store [_, _] (by kernel_rfl) rfl rfl rfl rfl (by simp) ?_)
  try simp only [splice, List.length_cons, List.length_nil, List.drop_succ_cons, List.cons_append, List.take_succ_cons, List.take_zero, List.drop_zero, List.nil_append, List.append_nil]
  refine LW.q rfl (Qt.assign rfl) ?_
  refine LW.done ?_
  refine T.seq ?_
  refine T.seq ?_
  refine T.region ?_
  refine LW.q rfl (Qt.move rfl) ?_
  refine LW.q rfl (Qt.neq rfl rfl) ?_
  refine LW.done ?_
  refine T.condT rfl ?_
  refine T.seq ?_
  refine T.region ?_
  refine LW.q rfl (Qt.move rfl) ?_
  refine LW.q rfl (Qt.len (e := 5) (sz := 1) (by kernel_rfl) rfl) ?_
  refine LW.q rfl (Qt.gtr rfl rfl) ?_
  refine LW.q rfl (Qt.move rfl) ?_
  refine LW.gT (t := 38) rfl (decide_eq_true (by omega)) ?_
  refine LW.q rfl (Qt.move rfl) ?_
  refine LW.q rfl (Qt.eql rfl rfl) ?_
  refine LW.q rfl (Qt.pick rfl rfl) ?_
  refine LW.q rfl (Qt.assign rfl) ?_
  refine LW.done ?_
  refine T.ret ?_
  exact ⟨.inl rfl, _, _, res [_] rfl ⟨rvT rfl, trivial⟩, ⟨rfl, rfl⟩, Sub.any⟩
 ·
  have hd2 : d.length ≤ 184 := by omega
  rw [f2 d hd2]
  refine LW.q rfl (Qt.move rfl) ?_
  refine LW.q rfl (Qt.extr rfl rfl) ?_
  refine LW.q rfl (Qt.extr rfl rfl) ?_
  refine LW.e rfl (Ef.alloc [.int .i64 0, .int .i64 0] (by unfold zeroB; kernel_rfl) ?_)
  intro g9
  refine LW.e0 rfl (Ef.store [_, _] (by kernel_rfl) rfl rfl rfl rfl (by simp) ?_)
  try simp only [splice, List.length_cons, List.length_nil, List.drop_succ_cons, List.cons_append, List.take_succ_cons, List.take_zero, List.drop_zero, List.nil_append, List.append_nil]
  refine LW.q rfl (Qt.assign rfl) ?_
  refine LW.done ?_
  refine T.seq ?_
  refine T.seq ?_
  refine T.region ?_
  refine LW.q rfl (Qt.move rfl) ?_
  refine LW.q rfl (Qt.neq rfl rfl) ?_
  refine LW.done ?_
  refine T.condF rfl ?_
  refine T.skip ?_
  refine T.seq ?_
  refine T.drawBl 9 none (by kernel_rfl) (Nat.le_of_ble_eq_true rfl) (by kernel_rfl) ?_
  refine RW.q 0 rfl rfl (by kernel_rfl) Sub.any (Qt.move rfl) ?_
  refine RW.q 1 rfl rfl (by kernel_rfl) Sub.any (Qt.nilCheck rfl) ?_
  refine RW.q 2 rfl rfl (by kernel_rfl) Sub.any (Qt.fieldAddr0 (by kernel_rfl) rfl) ?_
  refine RW.q 4 rfl rfl (by kernel_rfl) Sub.any (Qt.move rfl) ?_
  refine RW.q 5 rfl rfl (by kernel_rfl) Sub.any (Qt.nilCheck rfl) ?_
  refine RW.q 6 rfl rfl (by kernel_rfl) Sub.any (Qt.fieldAddr0 (by kernel_rfl) rfl) ?_
  refine RW.one 3 (by kernel_rfl) ?_
  refine RO.eS rfl rfl (Ef.call (Hp.begin B g b 9 7 2 16 (fS2 d) (by omega)) Tryz.func17 rfl rfl rfl ?_)
  rintro _ _ ⟨rfl, rfl⟩
  try simp only [List.cons_append, List.nil_append]
  refine ⟨Sub.any, ?_⟩
  refine RW.one 7 (by kernel_rfl) ?_
  refine RO.r rfl rfl (by kernel_rfl) (Ef.call (Hp.begin B g b 9 7 2 17 (beginR (fS2 d)) (by omega)) Tryz.func17 rfl rfl rfl ?_)
  rintro _ _ ⟨rfl, rfl⟩
  try simp only [List.cons_append, List.nil_append]
  rw [f3, show (fS2 d).last + 1 = 2 from rfl, show (beginR (fS2 d)).last + 1 = 3 from rfl]
  refine RW.q 8 rfl rfl (by kernel_rfl) (Sub.refl _) (Qt.assign rfl) ?_
  refine RW.done (by rfl) ?_
  simp only [List.drop_succ_cons, List.drop_zero, List.drop_nil]
  refine LW.q rfl (Qt.assign rfl) ?_
  refine LW.done ?_
  refine T.seq ?_
  refine T.seq ?_
  refine T.region ?_
  refine LW.q rfl (Qt.move rfl) ?_
  refine LW.q rfl (Qt.move rfl) ?_
  refine LW.q rfl (Qt.loadAgg [_, _] (by kernel_rfl) rfl ⟨rfl, rfl, trivial⟩) ?_
  refine LW.e rfl (Ef.call (Hp.end_ B g b 9 7 2 18 (fS4 d) (by omega) 2 0 0) Tryz.func22 rfl rfl rfl ?_)
  rintro _ _ ⟨rfl, rfl⟩
  try simp only [List.cons_append, List.nil_append]
  rw [f4 d]
  refine LW.q rfl (Qt.neq rfl rfl) ?_
  refine LW.q rfl (Qt.move rfl) ?_
  refine LW.gF (t := 55) rfl rfl ?_
  refine LW.q rfl (Qt.move rfl) ?_
  refine LW.q rfl (Qt.move rfl) ?_
  refine LW.e rfl (Ef.call (Hp.commit B g b 9 7 2 20 (fS4 d) (by omega) 1 1 (by simp)) Tryz.func20 rfl rfl rfl ?_)
  rintro _ _ ⟨rfl, rfl⟩
  try simp only [List.cons_append, List.nil_append]
  rw [f5 d hd2]
  refine LW.q rfl (Qt.neq rfl rfl) ?_
  refine LW.q rfl (Qt.pick rfl rfl) ?_
  refine LW.q rfl (Qt.move rfl) ?_
  refine LW.gF (t := 61) rfl rfl ?_
  refine LW.q rfl (Qt.move rfl) ?_
  refine LW.q rfl (Qt.move rfl) ?_
  refine LW.q rfl (Qt.loadAgg [_, _] (by kernel_rfl) rfl ⟨rfl, rfl, trivial⟩) ?_
  refine LW.e rfl (Ef.call (Hp.end_ B g b 9 7 2 20 (fS5 d) (by omega) 2 0 0) Tryz.func22 rfl rfl rfl ?_)
  rintro _ _ ⟨rfl, rfl⟩
  try simp only [List.cons_append, List.nil_append]
  rw [f6 d hd2]
  refine LW.q rfl (Qt.neq rfl rfl) ?_
  refine LW.q rfl (Qt.pick rfl rfl) ?_
  refine LW.q rfl (Qt.move rfl) ?_
  refine LW.gF (t := 68) rfl rfl ?_
  refine LW.q rfl (Qt.move rfl) ?_
  refine LW.q rfl (Qt.move rfl) ?_
  refine LW.q rfl (Qt.loadAgg [_, _] (by kernel_rfl) rfl ⟨rfl, rfl, trivial⟩) ?_
  refine LW.e rfl (Ef.call (Hp.end_ B g b 9 7 2 22 (fS6 d) (by omega) 3 0 0) Tryz.func22 rfl rfl rfl ?_)
  rintro _ _ ⟨rfl, rfl⟩
  try simp only [List.cons_append, List.nil_append]
  rw [f7 d]
  refine LW.q rfl (Qt.neq rfl rfl) ?_
  refine LW.q rfl (Qt.pick rfl rfl) ?_
  refine LW.done ?_
  refine T.condF rfl ?_
  refine T.skip ?_
  refine T.seq ?_
  refine T.seq ?_
  refine T.region ?_
  refine LW.q rfl (Qt.move rfl) ?_
  refine LW.done ?_
  refine T.cond rfl (fun hab => ?_) (fun hab => ?_)
  ·
   refine T.seq ?_
   refine T.region ?_
   refine LW.q rfl (Qt.move rfl) ?_
   refine LW.q rfl (Qt.nilCheck rfl) ?_
   refine LW.q rfl (Qt.fieldAddr0 (by kernel_rfl) rfl) ?_
   refine LW.q rfl (Qt.move rfl) ?_
   refine LW.e rfl (Ef.call (Hp.abort B g b 9 7 2 24 (fS6 d) 2) Tryz.func23 rfl rfl rfl ?_)
   rintro _ _ ⟨rfl, rfl⟩
   try simp only [List.cons_append, List.nil_append]
   rw [f8 d]
   refine LW.q rfl (Qt.eql rfl rfl) ?_
   refine LW.q rfl (Qt.move rfl) ?_
   refine LW.gT (t := 82) rfl rfl ?_
   refine LW.q rfl (Qt.move rfl) ?_
   refine LW.q rfl (Qt.move rfl) ?_
   refine LW.q rfl (Qt.loadAgg [_, _] (by kernel_rfl) rfl ⟨rfl, rfl, trivial⟩) ?_
   refine LW.e rfl (Ef.call (Hp.end_ B g b 9 7 2 24 (fS7 d) (by omega) 3 0 0) Tryz.func22 rfl rfl rfl ?_)
   rintro _ _ ⟨rfl, rfl⟩
   try simp only [List.cons_append, List.nil_append]
   rw [f9 d hd2]
   refine LW.q rfl (Qt.eql rfl rfl) ?_
   refine LW.q rfl (Qt.pick rfl rfl) ?_
   refine LW.q rfl (Qt.move rfl) ?_
   refine LW.gT (t := 89) rfl rfl ?_
   refine LW.q rfl (Qt.move rfl) ?_
   refine LW.q rfl (Qt.move rfl) ?_
   refine LW.e rfl (Ef.call (Hp.commit B g b 9 7 2 26 (fS8 d) (by omega) 3 2 (by simp)) Tryz.func20 rfl rfl rfl ?_)
   rintro _ _ ⟨rfl, rfl⟩
   try simp only [List.cons_append, List.nil_append]
   rw [fA d hd2]
   refine LW.q rfl (Qt.eql rfl rfl) ?_
   refine LW.q rfl (Qt.pick rfl rfl) ?_
   refine LW.q rfl (Qt.move rfl) ?_
   refine LW.gT (t := 95) rfl rfl ?_
   refine LW.q rfl (Qt.move rfl) ?_
   refine LW.e rfl (Ef.call (Hp.all B g b 9 7 2 26 (fS9 d) (by omega)) Tryz.func19 rfl rfl rfl ?_)
   rintro _ _ ⟨L, p, c, hL1, hL2, rfl, rfl⟩
   try simp only [List.cons_append, List.nil_append]
   rw [fB d] at hL2
   obtain ⟨x, rfl, hxv⟩ := one_map hL2
   refine LW.own fun w ho => ?_
   obtain ⟨g4, rfl⟩ : ∃ g, p = some ⟨g, 0, none⟩ := ((ho.map Sub.any : Own B w [vmR p 1 c [x]]).slice_at (p := p) (m := 1) (c := c)).2.1 (by omega)
   clear ho
   rw [show [x].length = 1 from rfl]
   refine LW.q rfl (Qt.index 0 (e := 45) (sz := 5) (by kernel_rfl) rfl rfl rfl (by omega)) ?_
   refine LW.q rfl (Qt.fieldAddr (off := 3) (by kernel_rfl) rfl) ?_
   refine LW.q rfl (Qt.load (v := .int .i64 3) (by kernel_rfl) rfl (by have := ver_at (L := [x]) (j := 0) rfl 3 (by omega) rfl; rw [hxv] at this; simpa using this)) ?_
   refine LW.q rfl (Qt.move rfl) ?_
   refine LW.q rfl (Qt.eql rfl rfl) ?_
   refine LW.q rfl (Qt.pick rfl rfl) ?_
   refine LW.q rfl (Qt.assign rfl) ?_
   refine LW.done ?_
   refine T.ret ?_
   exact ⟨.inl rfl, _, _, res [_] rfl ⟨rvT rfl, trivial⟩, ⟨rfl, rfl⟩, Sub.any⟩
  ·
   refine T.skip ?_
   refine T.seq ?_
   refine T.region ?_
   refine LW.q rfl (Qt.move rfl) ?_
   refine LW.q rfl (Qt.move rfl) ?_
   refine LW.e rfl (Ef.call (Hp.commit B g b 9 7 2 24 (fS6 d) (by omega) 2 2 (by simp)) Tryz.func20 rfl rfl rfl ?_)
   rintro _ _ ⟨rfl, rfl⟩
   try simp only [List.cons_append, List.nil_append]
   rw [fC d hd2]
   refine LW.q rfl (Qt.eql rfl rfl) ?_
   refine LW.q rfl (Qt.move rfl) ?_
   refine LW.gT (t := 108) rfl rfl ?_
   refine LW.q rfl (Qt.move rfl) ?_
   refine LW.q rfl (Qt.move rfl) ?_
   refine LW.q rfl (Qt.loadAgg [_, _] (by kernel_rfl) rfl ⟨rfl, rfl, trivial⟩) ?_
   refine LW.e rfl (Ef.call (Hp.end_ B g b 9 7 2 24 (fSA d) (by omega) 3 0 0) Tryz.func22 rfl rfl rfl ?_)
   rintro _ _ ⟨rfl, rfl⟩
   try simp only [List.cons_append, List.nil_append]
   rw [fD d]
   refine LW.q rfl (Qt.eql rfl rfl) ?_
   refine LW.q rfl (Qt.pick rfl rfl) ?_
   refine LW.q rfl (Qt.move rfl) ?_
   refine LW.gT (t := 115) rfl rfl ?_
   refine LW.q rfl (Qt.move rfl) ?_
   refine LW.e rfl (Ef.call (Hp.all B g b 9 7 2 26 (fSA d) (by omega)) Tryz.func19 rfl rfl rfl ?_)
   rintro _ _ ⟨L, p, c, hL1, hL2, rfl, rfl⟩
   try simp only [List.cons_append, List.nil_append]
   rw [fE d] at hL2
   obtain ⟨x, rfl, hxv⟩ := one_map hL2
   rw [show [x].length = 1 from rfl]
   refine LW.q rfl (Qt.len (e := 45) (sz := 5) (by kernel_rfl) rfl) ?_
   refine LW.q rfl (Qt.eql rfl rfl) ?_
   refine LW.q rfl (Qt.pick rfl rfl) ?_
   refine LW.q rfl (Qt.move rfl) ?_
   refine LW.gT (t := 121) rfl rfl ?_
   refine LW.q rfl (Qt.move rfl) ?_
   refine LW.e rfl (Ef.call (Hp.all B g b 9 7 2 33 (fSA d) (by omega)) Tryz.func19 rfl rfl rfl ?_)
   rintro _ _ ⟨L2, p2, c2, hL3, hL4, rfl, rfl⟩
   try simp only [List.cons_append, List.nil_append]
   rw [fE d] at hL4
   obtain ⟨x2, rfl, hxv2⟩ := one_map hL4
   refine LW.own fun w ho => ?_
   obtain ⟨g4, rfl⟩ : ∃ g, p2 = some ⟨g, 0, none⟩ := ((ho.map Sub.any : Own B w [vmR p2 1 c2 [x2]]).slice_at (p := p2) (m := 1) (c := c2)).2.1 (by omega)
   clear ho
   rw [show [x2].length = 1 from rfl]
   refine LW.q rfl (Qt.index 0 (e := 45) (sz := 5) (by kernel_rfl) rfl rfl rfl (by omega)) ?_
   refine LW.q rfl (Qt.fieldAddr (off := 3) (by kernel_rfl) rfl) ?_
   refine LW.q rfl (Qt.load (v := .int .i64 2) (by kernel_rfl) rfl (by have := ver_at (L := [x2]) (j := 0) rfl 3 (by omega) rfl; rw [hxv2] at this; simpa using this)) ?_
   refine LW.q rfl (Qt.move rfl) ?_
   refine LW.q rfl (Qt.eql rfl rfl) ?_
   refine LW.q rfl (Qt.pick rfl rfl) ?_
   refine LW.q rfl (Qt.assign rfl) ?_
   refine LW.done ?_
   refine T.ret ?_
   exact ⟨.inl rfl, _, _, res [_] rfl ⟨rvT rfl, trivial⟩, ⟨rfl, rfl⟩, Sub.any⟩
end Go.Proofs.YtiooeiapplnafaaGreatDoor

/- The statement HeapKeeps. Conditions: that what is handed in can be read; sizes. -/
set_option linter.unusedSimpArgs false
set_option linter.unusedVariables false
namespace Go.Proofs.YtiooeiapplnafaaGreatDoor
open Go.RowKit
theorem vm_own {B : Base} {w : World} {x : VerM} {l : List Assn} (H : Own B w (vmsA [x] :: l)) : Own B w (vmA x :: l) := H.map fun _ k => Has.open_sepL (l := [vmA x]) k
section
variable {P : Program} {B : Base} {n : Nat} {l r : List Assn} {f : Fr} {Φ : Post} {c : Code}
theorem T.openVm (x : VerM) [k : TakeA (vmsA [x]) l r] (h : T P B n c Φ f (vmA x :: r)) : T P B n c Φ f l := ⟨fun Q w hf ho => h.run Q w hf (vm_own (ho.take (k := k)))⟩
end
section
variable (d : List UInt8)
abbrev kS5 : HR := ⟨7, 2304, fU d + 25, [⟨0, 0, 1, 0, d⟩], [], [(1, 3)], 1, [fE1 d, ⟨3, 1, 0, 0, 3, []⟩]⟩
theorem k5 (h : d.length ≤ 184) : commitR (fS2 d) 1 3 = (kS5 d, 0) := by
  rw [hCm_ok rfl rfl (by show fU d + 25 ≤ (2304 : Nat); unfold fU; omega)]
  simp only [writeR, sz3]
  rfl
theorem k6 : allR fS1 = [] := rfl
theorem k7 : allR (fS2 d) = [⟨0, 0, 1, 0, d⟩] := rfl
theorem k8 : allR (kS5 d) = [⟨0, 0, 1, 0, d⟩] := rfl
end
theorem bytes_get16 {l : List UInt8} {j : Nat} {x : UInt8} (h : l[16 + j]? = some x) : (bytesV l)[16 + j * 1]? = some (.int .u8 x.toNat) := by simp [bytesV, h]
theorem bytes_set16 (l : List UInt8) (j : Nat) (x : UInt8) : (bytesV l).set (16 + j * 1) (.int .u8 x.toNat) = bytesV (l.set (16 + j) x) := by
  simp [bytesV, List.map_set]
set_option maxHeartbeats 8000000 in
set_option maxRecDepth 100000 in
theorem Hp.keeps (B : Base) (vb : Value) (b : List UInt8) (hb : RoS B vb (bytesV b)) (hlb : b.length ≤ 1048576) : Fn Tryz.prog B 3 #[vb] [] (fun v l => v = .bool true ∧ l = []) := by
 obtain ⟨ba, bc, rfl⟩ := (hb.rd []).form (m := b.length) (by simp)
 refine Fn.enter1 146 Tryz.func3 rfl rfl (Nat.le_of_ble_eq_true rfl) (fun F => ?_)
 try simp only [List.cons_append, List.nil_append]
 refine T.seq ?_
 refine T.region ?_
 refine LW.q rfl (Qt.assign rfl) ?_
 refine LW.done ?_
 refine T.seq ?_
 refine T.seq ?_
 refine T.region ?_
 refine LW.e rfl (Ef.call (Hp.awake B) Tryz.func15 rfl rfl rfl ?_)
 rintro _ _ ⟨rfl, rfl⟩
 try simp only [List.cons_append, List.nil_append]
 refine LW.q rfl (Qt.notB rfl) ?_
 refine LW.done ?_
 refine T.condF rfl ?_
 refine T.skip ?_
 refine T.seq ?_
 refine T.region ?_
 refine LW.e rfl (Ef.call (Hp.opened B 16 9 7 2 16 9 2 rfl rfl rfl (by omega) (by omega) rfl (by omega) (by omega) (by omega)) Tryz.func16 rfl rfl rfl ?_)
 rintro _ _ ⟨bd, g, rfl, rfl⟩
 try simp only [List.cons_append, List.nil_append]
 refine LW.q rfl (Qt.move rfl) ?_
 refine LW.q rfl (Qt.extr rfl rfl) ?_
 refine LW.q rfl (Qt.extr rfl rfl) ?_
 refine LW.q rfl (Qt.extr rfl rfl) ?_
 refine LW.q rfl (Qt.assign rfl) ?_
 refine LW.q rfl (Qt.assign rfl) ?_
 refine LW.q rfl (Qt.assign rfl) ?_
 refine LW.done ?_
 refine T.seq ?_
 refine T.seq ?_
 refine T.region ?_
 refine LW.q rfl (Qt.move rfl) ?_
 refine LW.q rfl (Qt.eqlNil (by kernel_rfl) rfl rfl) ?_
 refine LW.q rfl (Qt.move rfl) ?_
 refine LW.gF (t := 22) rfl rfl ?_
 refine LW.q rfl (Qt.move rfl) ?_
 refine LW.q rfl (Qt.eqlNil (by kernel_rfl) rfl rfl) ?_
 refine LW.q rfl (Qt.pick rfl rfl) ?_
 refine LW.done ?_
 refine T.condF rfl ?_
 refine T.skip ?_
 refine T.seq ?_
 refine T.region ?_
 refine LW.q rfl (Qt.move rfl) ?_
 refine LW.q rfl (Qt.nilCheck rfl) ?_
 refine LW.q rfl (Qt.fieldAddr0 (by kernel_rfl) rfl) ?_
 refine LW.e rfl (Ef.call (Hp.begin B g bd 9 7 2 7 (newR 7 (9 * 256)) (by omega)) Tryz.func17 rfl rfl rfl ?_)
 rintro _ _ ⟨rfl, rfl⟩
 try simp only [List.cons_append, List.nil_append]
 rw [f1, show (newR 7 (9 * 256)).last + 1 = 1 from rfl]
 refine LW.q rfl (Qt.assign rfl) ?_
 refine LW.done ?_
 refine T.seq ?_
 refine T.region ?_
 refine LW.e rfl (Ef.empty Cd.elemB ?_)
 rintro g32
 try simp only [List.cons_append, List.nil_append]
 refine LW.q rfl (Qt.move rfl) ?_
 refine LW.e rfl (Ef.append Cd.elemB rfl rfl (SrcOf.rd (m := b.length) (hb.rd _) (by kernel_rfl) (by simp) one_bytesV) (by unfold maxLen; omega) (by omega) ?_)
 rintro p1 c1 hp1
 try simp only [List.cons_append, List.nil_append]
 simp only [Nat.zero_add, List.nil_append]
 refine LW.e rfl (Ef.one [_] (e := 5) (sz := 1) (by kernel_rfl) ⟨.int .u8 0, by kernel_rfl, rfl⟩ rfl rfl rfl (by omega) (by omega) ?_)
 intro g33
 refine LW.e rfl (Ef.append Cd.elemB rfl rfl (SrcOf.blk (by kernel_rfl) rfl (by simp [Value.oneCell'])) (by unfold maxLen; omega) (by omega) ?_)
 rintro p2 c2 hp2
 try simp only [List.cons_append, List.nil_append]
 obtain ⟨g2, rfl⟩ := hp2 (by omega)
 rw [show bytesV b ++ [Value.int .u8 77] = bytesV (b ++ [77]) by simp [bytesV]]
 refine LW.own (fun w ho => ?_)
 have hc2 := ho.cap_at (p := some ⟨g2, 0, none⟩) (m := b.length + 1) (c := c2)
 clear ho
 refine LW.q rfl (Qt.move rfl) ?_
 refine LW.q rfl (Qt.len (e := 5) (sz := 1) (by kernel_rfl) rfl) ?_
 refine LW.q rfl (Qt.slice_nsn b.length (e := 5) (sz := 1) (by kernel_rfl) rfl rfl rfl (by omega)) ?_
 refine LW.q rfl (Qt.assign rfl) ?_
 refine LW.done ?_
 refine T.seq ?_
 refine T.region ?_
 refine LW.q rfl (Qt.move rfl) ?_
 refine LW.q rfl (Qt.move rfl) ?_
 refine LW.q rfl (Qt.move rfl) ?_
 have hmine : RdV B [rB (.slice (some ⟨g2, 0, none⟩) (b.length + 1) c2) (b.length + 1) (b ++ [77])] (.slice (some ⟨g2, 0, none⟩) b.length c2) (bytesV b) := by have := (RdV.rB (p := some ⟨g2, 0, none⟩) (c := c2) (b := b ++ [77]) (m := b.length + 1) (by simp) (fun _ => ⟨_, rfl⟩)).takeB (B := B) b.length c2 (by simp); rw [List.take_left' rfl] at this; exact this
 refine LW.e rfl (Ef.call (Hp.add B [rB (.slice (some ⟨g2, 0, none⟩) (b.length + 1) c2) (b.length + 1) (b ++ [77])] g bd 9 7 2 8 fS1 (by omega) 1 (some ⟨g2, 0, none⟩) c2 b hmine (by omega)) Tryz.func18 rfl rfl rfl ?_)
 rintro _ _ ⟨rfl, rfl⟩
 try simp only [List.cons_append, List.nil_append]
 refine LW.q rfl (Qt.move rfl) ?_
 refine LW.q rfl (Qt.extr rfl rfl) ?_
 refine LW.q rfl (Qt.extr rfl rfl) ?_
 refine LW.e rfl (Ef.alloc [.int .i64 0, .int .i64 0] (by unfold zeroB; kernel_rfl) ?_)
 intro g8
 refine LW.e0 rfl (Ef.store [_, _] (by kernel_rfl) rfl rfl rfl rfl (by simp) ?_)
 try simp only [splice, List.length_cons, List.length_nil, List.drop_succ_cons, List.cons_append, List.take_succ_cons, List.take_zero, List.drop_zero, List.nil_append, List.append_nil]
 refine LW.q rfl (Qt.assign rfl) ?_
 refine LW.done ?_
 refine T.seq ?_
 refine T.seq ?_
 refine T.region ?_
 refine LW.q rfl (Qt.move rfl) ?_
 refine LW.q rfl (Qt.str b (by kernel_rfl) (by kernel_rfl) rfl (hmine.mono (fun w ho => ho.map Sub.any)).str) ?_
 refine LW.q rfl (Qt.move rfl) ?_
 refine LW.q rfl (Qt.str b (by kernel_rfl) (by kernel_rfl) rfl (hb.rd _).str) ?_
 refine LW.q rfl (Qt.neqS rfl rfl) ?_
 refine LW.q rfl (Qt.move rfl) ?_
 refine LW.gF (t := 50) rfl (decide_eq_false ((by simp))) ?_
 refine LW.q rfl (Qt.move rfl) ?_
 refine LW.q rfl (Qt.move rfl) ?_
 refine LW.q rfl (Qt.len (e := 5) (sz := 1) (by kernel_rfl) rfl) ?_
 refine LW.q rfl (Qt.add rfl rfl (wr64 (by omega) (by omega))) ?_
 refine LW.q rfl (Qt.slice_nsn (b.length + 1) (e := 5) (sz := 1) (by kernel_rfl) rfl rfl (by omega) (by omega)) ?_
 refine LW.q rfl (Qt.move rfl) ?_
 refine LW.q rfl (Qt.len (e := 5) (sz := 1) (by kernel_rfl) rfl) ?_
 refine LW.q rfl (Qt.index _ (e := 5) (sz := 1) (by kernel_rfl) rfl rfl rfl (by omega)) ?_
 refine LW.q rfl (Qt.load (v := .int .u8 77) (by kernel_rfl) rfl (bytes_get (x := 77) (by simp))) ?_
 refine LW.q rfl (Qt.neq rfl rfl) ?_
 refine LW.q rfl (Qt.pick rfl rfl) ?_
 refine LW.done ?_
 refine T.condF rfl ?_
 refine T.skip ?_
 refine T.seq ?_
 refine T.seq ?_
 refine T.region ?_
 refine LW.q rfl (Qt.move rfl) ?_
 refine LW.q rfl (Qt.len (e := 5) (sz := 1) (by kernel_rfl) rfl) ?_
 refine LW.q rfl (Qt.move rfl) ?_
 refine LW.done ?_
 refine T.block ?_
 refine T.loop (fun mz fz lz => ∃ (f0 : Fr) (i : Nat) (acc : List UInt8), (i ≤ b.length ∧ acc.length = b.length + 1) ∧ mz = b.length - i ∧ fz = (upd (upd (upd (upd (upd (upd (upd f0 0 (.slice ba b.length bc)) 4 (pV g)) 6 (.int .i64 1)) 7 (.slice (some ⟨g2, 0, none⟩) b.length c2)) 9 (.int .i64 (addR' fS1 1 b).2.2.2)) 63 (.int .i64 b.length)) 64 (.int .i64 i)) ∧ lz = hpA g bd 9 7 2 16 (addR' fS1 1 b).1 :: rB (.slice (some ⟨g2, 0, none⟩) (b.length + 1) c2) (b.length + 1) acc :: F) ?_ ?_
 · refine ⟨_, _, ⟨_, 0, b ++ [77], ⟨Nat.zero_le _, by simp⟩, rfl, (updS rfl (updS rfl (updS rfl (updS rfl (updS rfl (updS rfl (updS rfl rfl))))))), rfl⟩, Sub.any⟩
 ·
  rintro mz fz lz ⟨f0, i, acc, ⟨hi, hacc⟩, hmz, rfl, rfl⟩
  subst mz
  try simp only [List.cons_append, List.nil_append]
  refine T.seq ?_
  refine T.region ?_
  refine LW.q rfl (Qt.lss rfl rfl) ?_
  refine LW.done ?_
  refine T.seq ?_
  refine T.condP rfl (fun hlt => ?_) (fun hlt => ?_)
  ·
   obtain ⟨x, hx⟩ : ∃ x, acc[i]? = some x := ⟨_, List.getElem?_eq_getElem (by omega)⟩
   refine T.skip ?_
   refine T.seq ?_
   refine T.block ?_
   refine T.seq ?_
   refine T.region ?_
   refine LW.q rfl (Qt.move rfl) ?_
   refine LW.q rfl (Qt.assign rfl) ?_
   refine LW.done ?_
   refine T.region ?_
   refine LW.q rfl (Qt.move rfl) ?_
   refine LW.q rfl (Qt.move rfl) ?_
   refine LW.q rfl (Qt.index _ (e := 5) (sz := 1) (by kernel_rfl) rfl rfl rfl (by omega)) ?_
   refine LW.q rfl (Qt.load (v := .int .u8 x.toNat) (by kernel_rfl) rfl (bytes_get hx)) ?_
   refine LW.q rfl (Qt.add rfl rfl (wr8_inc x)) ?_
   refine LW.q rfl (Qt.index _ (e := 5) (sz := 1) (by kernel_rfl) rfl rfl rfl (by omega)) ?_
   refine LW.e0 rfl (Ef.store1 (by kernel_rfl) rfl rfl rfl (by first | (simp; done) | (simp; omega)) ?_)
   try simp only [List.set_cons_zero, List.set_cons_succ]
   rw [bytes_set acc i (x + 1)]
   refine LW.done ?_
   refine T.region ?_
   refine LW.q rfl (Qt.add rfl rfl (wr64 (by omega) (by omega))) ?_
   refine LW.q rfl (Qt.move rfl) ?_
   refine LW.done ?_
   refine ⟨_, ?_, _, ⟨_, i + 1, acc.set i (x + 1), ⟨by omega, by simp [hacc]⟩, rfl, (updS rfl (updS rfl (updS rfl (updS rfl (updS rfl (updS rfl (updS rfl rfl))))))), rfl⟩, Sub.any⟩
   omega
  ·
   clear hlt
   by_cases hd : 184 < b.length
   ·
    rw [f2no b hd]
    refine T.exit ?_
    refine T.seq ?_
    refine T.region ?_
    refine LW.q rfl (Qt.move rfl) ?_
    refine LW.e rfl (Ef.call (Hp.all B g bd 9 7 2 16 fS1 (by omega)) Tryz.func19 rfl rfl rfl ?_)
    rintro _ _ ⟨L, p, c, hL1, hL2, rfl, rfl⟩
    try simp only [List.cons_append, List.nil_append]
    rw [k6, List.map_eq_nil_iff] at hL2
    subst hL2
    rw [show ([] : List VerM).length = 0 from rfl]
    refine LW.q rfl (Qt.assign rfl) ?_
    refine LW.done ?_
    refine T.seq ?_
    refine T.seq ?_
    refine T.region ?_
    refine LW.q rfl (Qt.move rfl) ?_
    refine LW.q rfl (Qt.neq rfl rfl) ?_
    refine LW.done ?_
    refine T.condT rfl ?_
    refine T.seq ?_
    refine T.region ?_
    refine LW.q rfl (Qt.move rfl) ?_
    refine LW.q rfl (Qt.len (e := 45) (sz := 5) (by kernel_rfl) rfl) ?_
    refine LW.q rfl (Qt.eql rfl rfl) ?_
    refine LW.q rfl (Qt.assign rfl) ?_
    refine LW.done ?_
    refine T.ret ?_
    exact ⟨.inl rfl, _, _, res [_] rfl ⟨rvT rfl, trivial⟩, ⟨rfl, rfl⟩, Sub.any⟩
   ·
    have hd2 : b.length ≤ 184 := by omega
    rw [f2 b hd2]
    refine T.exit ?_
    refine T.seq ?_
    refine T.region ?_
    refine LW.q rfl (Qt.move rfl) ?_
    refine LW.e rfl (Ef.call (Hp.all B g bd 9 7 2 16 (fS2 b) (by omega)) Tryz.func19 rfl rfl rfl ?_)
    rintro _ _ ⟨L, p, c, hL1, hL2, rfl, rfl⟩
    try simp only [List.cons_append, List.nil_append]
    rw [k7 b] at hL2
    obtain ⟨x, rfl, hxv⟩ := one_map hL2
    rw [show [x].length = 1 from rfl]
    refine LW.own fun w ho => ?_
    have hvo : VmsOk [x] := (ho.map Sub.any : Own B w [vmsA [x]]).vmsOk hL1
    obtain ⟨g4, rfl⟩ : ∃ g, p = some ⟨g, 0, none⟩ := ((ho.map Sub.any : Own B w [vmR p 1 c [x]]).slice_at (p := p) (m := 1) (c := c)).2.1 (by omega)
    clear ho
    have hrd := RdV.ver (B := B) hvo (j := 0) rfl
    rw [hxv] at hrd
    obtain ⟨hxo, ⟨gx, hgx⟩, hxc⟩ := hvo 0 x rfl
    rw [hxv] at hxc
    have hxc2 : 16 + b.length ≤ x.c := hxc
    have hld := ver_at (L := [x]) (j := 0) rfl 4 (by omega) rfl
    rw [hxv] at hld
    refine LW.q rfl (Qt.assign rfl) ?_
    refine LW.done ?_
    refine T.seq ?_
    refine T.seq ?_
    refine T.region ?_
    refine LW.q rfl (Qt.move rfl) ?_
    refine LW.q rfl (Qt.neq rfl rfl) ?_
    refine LW.done ?_
    refine T.condF rfl ?_
    refine T.skip ?_
    refine T.seq ?_
    refine T.seq ?_
    refine T.drawAll 13 (by kernel_rfl) (Nat.le_of_ble_eq_true rfl) (by kernel_rfl) ?_
    refine RW.q 0 rfl rfl (by kernel_rfl) (Sub.refl _) (Qt.move rfl) ?_
    refine RW.q 1 rfl rfl (by kernel_rfl) (Sub.refl _) (Qt.len (e := 45) (sz := 5) (by kernel_rfl) rfl) ?_
    refine RW.q 2 rfl rfl (by kernel_rfl) (Sub.refl _) (Qt.neq rfl rfl) ?_
    refine RW.q 3 rfl rfl (by kernel_rfl) (Sub.refl _) (Qt.move rfl) ?_
    refine RW.gF (t := 84) rfl rfl ?_
    refine RW.q 4 rfl rfl (by kernel_rfl) (Sub.refl _) (Qt.move rfl) ?_
    refine RW.q 5 rfl rfl (by kernel_rfl) (Sub.refl _) (Qt.index 0 (e := 45) (sz := 5) (by kernel_rfl) rfl rfl rfl (by omega)) ?_
    refine RW.q 6 rfl rfl (by kernel_rfl) (Sub.refl _) (Qt.fieldAddr (off := 4) (by kernel_rfl) rfl) ?_
    refine RW.q 7 rfl rfl (by kernel_rfl) (Sub.refl _) (Qt.load (v := .slice (offA x.p x.c 16 1) b.length (x.c - 16)) (by kernel_rfl) rfl (by simpa using hld)) ?_
    refine RW.q 8 rfl rfl (by kernel_rfl) (Sub.refl _) (Qt.str b (by kernel_rfl) (by kernel_rfl) rfl (fun w ho => hrd.reads w (ho.map Sub.any))) ?_
    refine RW.q 9 rfl rfl (by kernel_rfl) (Sub.refl _) (Qt.move rfl) ?_
    refine RW.q 10 rfl rfl (by kernel_rfl) (Sub.refl _) (Qt.str b (by kernel_rfl) (by kernel_rfl) rfl (hb.rd _).str) ?_
    refine RW.q 11 rfl rfl (by kernel_rfl) (Sub.refl _) (Qt.neqS rfl rfl) ?_
    refine RW.q 12 rfl rfl (by kernel_rfl) (Sub.refl _) (Qt.pick rfl rfl) ?_
    refine RW.done (by rfl) ?_
    simp only [List.drop_succ_cons, List.drop_zero, List.drop_nil]
    refine LW.done ?_
    refine T.condPF rfl ((by simp)) ?_
    refine T.openVm x ?_
    obtain ⟨raw, hraw⟩ : ∃ raw, x.raw = raw := ⟨_, rfl⟩
    have hrl := hxo.1
    rw [hxv, hraw] at hrl
    dsimp only [vmA]
    rw [hxv, hraw, hgx]
    refine T.skip ?_
    refine T.seq ?_
    refine T.seq ?_
    refine T.region ?_
    refine LW.q rfl (Qt.move rfl) ?_
    refine LW.q rfl (Qt.index 0 (e := 45) (sz := 5) (by kernel_rfl) rfl rfl rfl (by omega)) ?_
    refine LW.q rfl (Qt.fieldAddr (off := 4) (by kernel_rfl) rfl) ?_
    refine LW.q rfl (Qt.load (v := .slice (offA x.p x.c 16 1) b.length (x.c - 16)) (by kernel_rfl) rfl (by simpa using hld)) ?_
    refine LW.q rfl (Qt.len (e := 5) (sz := 1) (by kernel_rfl) rfl) ?_
    refine LW.q rfl (Qt.move rfl) ?_
    refine LW.done ?_
    refine T.block ?_
    refine T.loop (fun mz fz lz => ∃ (f0 : Fr) (i : Nat) (X : List UInt8), (i ≤ b.length ∧ X.length = 16 + b.length) ∧ mz = b.length - i ∧ fz = (upd (upd (upd (upd (upd (upd f0 0 (.slice ba b.length bc)) 4 (pV g)) 6 (.int .i64 1)) 11 (.slice (some ⟨g4, 0, none⟩) 1 c)) 98 (.int .i64 b.length)) 99 (.int .i64 i)) ∧ lz = rB (.slice (some ⟨gx, 0, none⟩) (16 + b.length) x.c) (16 + b.length) X :: vmR (some ⟨g4, 0, none⟩) 1 c [x] :: hpA g bd 9 7 2 23 (fS2 b) :: F) ?_ ?_
    · refine ⟨_, _, ⟨_, 0, raw, ⟨Nat.zero_le _, hrl⟩, rfl, (updS rfl (updS rfl (updS rfl (updS rfl (updS rfl (updS rfl rfl)))))), rfl⟩, Sub.any⟩
    ·
     rintro mz fz lz ⟨f0, i, X, ⟨hi2, hX⟩, hmz, rfl, rfl⟩
     subst mz
     try simp only [List.cons_append, List.nil_append]
     refine T.seq ?_
     refine T.region ?_
     refine LW.q rfl (Qt.lss rfl rfl) ?_
     refine LW.done ?_
     refine T.seq ?_
     refine T.condP rfl (fun hlt => ?_) (fun hlt => ?_)
     ·
      have hof : offA x.p x.c 16 1 = some ⟨gx, 16, none⟩ := by rw [hgx]; exact offA_some (b := gx) (o := 0) (sz := 1) (by omega)
      rw [hof] at hld
      obtain ⟨y, hy⟩ : ∃ y, X[16 + i]? = some y := ⟨_, List.getElem?_eq_getElem (by omega)⟩
      refine T.skip ?_
      refine T.seq ?_
      refine T.block ?_
      refine T.seq ?_
      refine T.region ?_
      refine LW.q rfl (Qt.move rfl) ?_
      refine LW.q rfl (Qt.assign rfl) ?_
      refine LW.done ?_
      refine T.region ?_
      refine LW.q rfl (Qt.move rfl) ?_
      refine LW.q rfl (Qt.index 0 (e := 45) (sz := 5) (by kernel_rfl) rfl rfl rfl (by omega)) ?_
      refine LW.q rfl (Qt.fieldAddr (off := 4) (by kernel_rfl) rfl) ?_
      refine LW.q rfl (Qt.load (v := .slice (some ⟨gx, 16, none⟩) b.length (x.c - 16)) (by kernel_rfl) rfl (by simpa using hld)) ?_
      refine LW.q rfl (Qt.move rfl) ?_
      refine LW.q rfl (Qt.index _ (e := 5) (sz := 1) (by kernel_rfl) rfl rfl rfl (by omega)) ?_
      refine LW.q rfl (Qt.load (v := .int .u8 y.toNat) (by kernel_rfl) rfl (bytes_get16 hy)) ?_
      refine LW.q rfl (Qt.add rfl rfl (wr8_inc y)) ?_
      refine LW.q rfl (Qt.index _ (e := 5) (sz := 1) (by kernel_rfl) rfl rfl rfl (by omega)) ?_
      refine LW.e0 rfl (Ef.store1 (by kernel_rfl) rfl rfl rfl (by first | (simp; done) | (simp; omega)) ?_)
      try simp only [List.set_cons_zero, List.set_cons_succ]
      rw [bytes_set16 X i (y + 1)]
      refine LW.done ?_
      refine T.region ?_
      refine LW.q rfl (Qt.add rfl rfl (wr64 (by omega) (by omega))) ?_
      refine LW.q rfl (Qt.move rfl) ?_
      refine LW.done ?_
      refine ⟨_, ?_, _, ⟨_, i + 1, X.set (16 + i) (y + 1), ⟨by omega, by simp [hX]⟩, rfl, (updS rfl (updS rfl (updS rfl (updS rfl (updS rfl (updS rfl rfl)))))), rfl⟩, Sub.any⟩
      omega
     ·
      refine T.exit ?_
      refine T.seq ?_
      refine T.region ?_
      refine LW.q rfl (Qt.move rfl) ?_
      refine LW.q rfl (Qt.move rfl) ?_
      refine LW.e rfl (Ef.call (Hp.commit B g bd 9 7 2 23 (fS2 b) (by omega) 1 3 (by simp)) Tryz.func20 rfl rfl rfl ?_)
      rintro _ _ ⟨rfl, rfl⟩
      try simp only [List.cons_append, List.nil_append]
      rw [k5 b hd2]
      refine LW.done ?_
      refine T.seq ?_
      refine T.region ?_
      refine LW.q rfl (Qt.move rfl) ?_
      refine LW.q rfl (Qt.nilCheck rfl) ?_
      refine LW.q rfl (Qt.fieldAddr0 (by kernel_rfl) rfl) ?_
      refine LW.e rfl (Ef.call (Hp.commits B g bd 9 7 2 23 (kS5 b) (by simp)) Tryz.func21 rfl rfl rfl ?_)
      rintro _ _ ⟨p5, c5, rfl, rfl⟩
      try simp only [List.cons_append, List.nil_append]
      simp only [List.length_cons, List.length_nil, Nat.zero_add]
      refine LW.own fun w ho => ?_
      obtain ⟨g5, rfl⟩ : ∃ g, p5 = some ⟨g, 0, none⟩ := ((ho.map Sub.any : Own B w [cmR p5 1 c5 [(1, 3)]]).slice_at (p := p5) (m := 1) (c := c5)).2.1 (by omega)
      clear ho
      refine LW.q rfl (Qt.index 0 (e := 48) (sz := 2) (by kernel_rfl) rfl rfl rfl (by omega)) ?_
      refine LW.q rfl (Qt.fieldAddr (off := 1) (by kernel_rfl) rfl) ?_
      refine LW.e0 rfl (Ef.store1 (by kernel_rfl) rfl rfl rfl (by first | (simp; done) | (simp; omega)) ?_)
      try simp only [List.set_cons_zero, List.set_cons_succ]
      refine LW.done ?_
      refine T.seq ?_
      refine T.region ?_
      refine LW.q rfl (Qt.move rfl) ?_
      refine LW.e rfl (Ef.call (Hp.all B g bd 9 7 2 23 (kS5 b) (by omega)) Tryz.func19 rfl rfl rfl ?_)
      rintro _ _ ⟨L2, p6, c6, hL3, hL4, rfl, rfl⟩
      try simp only [List.cons_append, List.nil_append]
      rw [k8 b] at hL4
      obtain ⟨x2, rfl, hxv2⟩ := one_map hL4
      rw [show [x2].length = 1 from rfl]
      refine LW.own fun w ho => ?_
      have hvo2 : VmsOk [x2] := (ho.map Sub.any : Own B w [vmsA [x2]]).vmsOk hL3
      obtain ⟨g6, rfl⟩ : ∃ g, p6 = some ⟨g, 0, none⟩ := ((ho.map Sub.any : Own B w [vmR p6 1 c6 [x2]]).slice_at (p := p6) (m := 1) (c := c6)).2.1 (by omega)
      clear ho
      have hrd2 := RdV.ver (B := B) hvo2 (j := 0) rfl
      rw [hxv2] at hrd2
      have hld2 := ver_at (L := [x2]) (j := 0) rfl 4 (by omega) rfl
      rw [hxv2] at hld2
      refine LW.q rfl (Qt.assign rfl) ?_
      refine LW.done ?_
      refine T.seq ?_
      refine T.drawAll 23 (by kernel_rfl) (Nat.le_of_ble_eq_true rfl) (by kernel_rfl) ?_
      refine RW.q 0 rfl rfl (by kernel_rfl) (Sub.refl _) (Qt.move rfl) ?_
      refine RW.q 1 rfl rfl (by kernel_rfl) (Sub.refl _) (Qt.len (e := 45) (sz := 5) (by kernel_rfl) rfl) ?_
      refine RW.q 2 rfl rfl (by kernel_rfl) (Sub.refl _) (Qt.eql rfl rfl) ?_
      refine RW.q 3 rfl rfl (by kernel_rfl) (Sub.refl _) (Qt.move rfl) ?_
      refine RW.gT (t := 126) rfl rfl ?_
      refine RW.q 4 rfl rfl (by kernel_rfl) (Sub.refl _) (Qt.move rfl) ?_
      refine RW.q 5 rfl rfl (by kernel_rfl) (Sub.refl _) (Qt.index 0 (e := 45) (sz := 5) (by kernel_rfl) rfl rfl rfl (by omega)) ?_
      refine RW.q 6 rfl rfl (by kernel_rfl) (Sub.refl _) (Qt.fieldAddr (off := 4) (by kernel_rfl) rfl) ?_
      refine RW.q 7 rfl rfl (by kernel_rfl) (Sub.refl _) (Qt.load (v := .slice (offA x2.p x2.c 16 1) b.length (x2.c - 16)) (by kernel_rfl) rfl (by simpa using hld2)) ?_
      refine RW.q 8 rfl rfl (by kernel_rfl) (Sub.refl _) (Qt.str b (by kernel_rfl) (by kernel_rfl) rfl (fun w ho => hrd2.reads w (ho.map Sub.any))) ?_
      refine RW.q 9 rfl rfl (by kernel_rfl) (Sub.refl _) (Qt.move rfl) ?_
      refine RW.q 10 rfl rfl (by kernel_rfl) (Sub.refl _) (Qt.str b (by kernel_rfl) (by kernel_rfl) rfl (hb.rd _).str) ?_
      refine RW.q 11 rfl rfl (by kernel_rfl) (Sub.refl _) (Qt.eqlS rfl rfl) ?_
      refine RW.q 12 rfl rfl (by kernel_rfl) (Sub.refl _) (Qt.pick rfl rfl) ?_
      refine RW.q 13 rfl rfl (by kernel_rfl) (Sub.refl _) (Qt.move rfl) ?_
      refine RW.gT (t := 136) rfl (decide_eq_true ((by simp))) ?_
      refine RW.q 14 rfl rfl (by kernel_rfl) (Sub.refl _) (Qt.move rfl) ?_
      refine RW.q 15 rfl rfl (by kernel_rfl) (Sub.refl _) (Qt.nilCheck rfl) ?_
      refine RW.q 16 rfl rfl (by kernel_rfl) (Sub.refl _) (Qt.fieldAddr0 (by kernel_rfl) rfl) ?_
      refine RW.one 17 (by kernel_rfl) ?_
      refine RO.r rfl rfl (by kernel_rfl) (Ef.call (Hp.commits B g bd 9 7 2 30 (kS5 b) (by simp)) Tryz.func21 rfl rfl rfl ?_)
      rintro _ _ ⟨p7, c7, rfl, rfl⟩
      try simp only [List.cons_append, List.nil_append]
      simp only [List.length_cons, List.length_nil, Nat.zero_add]
      refine RW.own fun w ho => ?_
      obtain ⟨g7, rfl⟩ : ∃ g, p7 = some ⟨g, 0, none⟩ := ((ho.map Sub.any : Own B w [cmR p7 1 c7 [(1, 3)]]).slice_at (p := p7) (m := 1) (c := c7)).2.1 (by omega)
      clear ho
      refine RW.q 18 rfl rfl (by kernel_rfl) (Sub.refl _) (Qt.index 0 (e := 48) (sz := 2) (by kernel_rfl) rfl rfl rfl (by omega)) ?_
      refine RW.q 19 rfl rfl (by kernel_rfl) (Sub.refl _) (Qt.fieldAddr (off := 1) (by kernel_rfl) rfl) ?_
      refine RW.q 20 rfl rfl (by kernel_rfl) (Sub.refl _) (Qt.load (by kernel_rfl) rfl rfl) ?_
      refine RW.q 21 rfl rfl (by kernel_rfl) (Sub.refl _) (Qt.eql rfl rfl) ?_
      refine RW.q 22 rfl rfl (by kernel_rfl) (Sub.refl _) (Qt.pick rfl rfl) ?_
      refine RW.done (by rfl) ?_
      simp only [List.drop_succ_cons, List.drop_zero, List.drop_nil]
      refine LW.q rfl (Qt.assign rfl) ?_
      refine LW.done ?_
      refine T.ret ?_
      exact ⟨.inl rfl, _, _, res [_] rfl ⟨rvT rfl, trivial⟩, ⟨rfl, rfl⟩, Sub.any⟩
end Go.Proofs.YtiooeiapplnafaaGreatDoor

/- The law HeapKeeps of annalslaw08 holds (its card): for all arguments of bulk at most 1048576 the call returns true and the arguments read as before. Condition: the bound of the second form. -/
set_option linter.unusedSimpArgs false
set_option linter.unusedVariables false
namespace Go.Proofs.YtiooeiapplnafaaGreatDoor.heapKeeps
open Go.ChangeShapes Go.WideShapes Go.ChangeAt Go.RowKit
theorem bulk_one {H : Type} (a : DataW H) : Rows.uptoBulkAll [a] = Rows.uptoBulk a := by simp [Rows.uptoBulkAll]
set_option maxRecDepth 100000 in
theorem contract (H : Type) (enc : TypeId × Value → H) (W : World) (base : Nat) (args : Array Value) (ds gs : List (DataW H)) (before : List MemPlace)
    (hval : ∀ (j : Nat) t v, Tryz.f3.params[j]? = some t → args[j]? = some v → Value.okWide Tryz.prog W .any base t v)
    (hW : DataW.Whole enc Tryz.prog Tryz.f3.params.toList Rows.heapKeepsSpec.vars false W args.toList ds gs before) (hk : Rows.uptoSmall H (ds ++ gs) = true) :
    Calls Tryz.prog 3 args W fun e W' => ∃ v, e = .returned v ∧ Rows.heapKeepsSpec.post enc Tryz.prog Tryz.f3 false true false false W args v W' := by
  have hW0 := hW
  obtain ⟨p, q, hA0, hV, rfl, hfz, hnd⟩ := hW
  have hA : DataW.TrodAll enc Tryz.prog W 0 (fun _ => true) true Tryz.f3.params.toList args.toList ds p := hA0
  rw [Tryz.params3] at hA hval
  obtain ⟨v0, d0, rfl, rfl, h0⟩ := trodAll_one hA
  obtain ⟨rfl, rfl⟩ := trodVars_none hV
  have hbulk := Tryz.upto_bound hk
  rw [List.append_nil] at hbulk
  clear hA0 hV hk
  obtain ⟨sa0, sl0, sc0, rfl⟩ := okWide_slice Tryz.underlying22 (hval 0 22 v0 rfl rfl)
  obtain ⟨fu0, t0⟩ := h0
  obtain ⟨sv0, l0, hc0, hs0, hB0, hL0⟩ := open_slice_R (enc := enc) (P := Tryz.prog) (W := W) (R := fun cs (a : UInt8) => cs = [.int .u8 a.toNat]) (B := fun _ => 1) Tryz.underlying22 (show Tryz.prog.cellsOf 5 = 1 by kernel_rfl) (by omega) (fun n cs y => read_u8 Tryz.underlying5 n cs y) t0
  simp only [Value.cells, List.cons.injEq, and_true] at hc0
  subst hc0
  dsimp only at hB0 hL0
  obtain ⟨fp0, hR0, hfp0⟩ := hs0.reads (fun a : UInt8 => Value.int .u8 a.toNat) (fun cs a h => h)
  rw [bulk_one] at hbulk

  refine (Fn.law (Hp.keeps _ _ l0 (RoS.ofReads hR0) (by omega))).mono fun e W' ⟨he, hg⟩ => ?_
  subst he
  exact ⟨_, rfl, post_law Tryz.laidOut hW0 rfl rfl 4 Tryz.underlying4 (by kernel_rfl) (by rw [Tryz.params3]; decide +kernel) hg.toBelow⟩

theorem reads (os : Os) {H : Type} (enc : TypeId × Value → H) : ∃ places, DataW.whole enc Tryz.prog ((laidWorld os).forCall (fun _ _ => 0) ⟨#[], #[.slice none 0 0], []⟩).memory Tryz.f3.params.toList Rows.heapKeepsSpec.vars false (#[.slice none 0 0] : Array Value).toList 8 = some ([.nil], [], places) :=
  ⟨[], by kernel_rfl⟩

set_option maxRecDepth 100000 in
theorem lifted (os : Os) (started : os.Started) (H : Type) (enc : TypeId × Value → H) (F : Stop.Interp) :
    ReturnsInHanded {} Tryz.checked os 3 .any ((Rows.OpenSpec.upto Rows.heapKeepsSpec).preRow enc Tryz.prog Tryz.f3 Rows.heapKeepsUptoRow.domain false Rows.heapKeepsUptoRow.laid) (((Rows.OpenSpec.upto Rows.heapKeepsSpec).at F).post enc Tryz.prog Tryz.f3 false true false false) := by
  obtain ⟨places, hx⟩ := reads os enc
  refine returnsInHanded_of_row (C := Tryz.checked) (s := Rows.OpenSpec.upto Rows.heapKeepsSpec) Tryz.own started (by kernel_rfl) Tryz.func3
    (witness_row_at (enc := enc) (C := Tryz.checked) false (laidWorld os) #[.slice none 0 0] rfl (by kernel_rfl) (by kernel_rfl) (by kernel_rfl)
      (OpenSpec.preRow_of_cond 8 hx (by kernel_rfl) (fun k hk => by cases hk; kernel_rfl) (by kernel_rfl) (laid_met os _))) ?_
  intro W base args ds gs before hval hW _ hcond _ _ _ _
  exact contract H enc W base args ds gs before hval hW (hcond _ rfl)

theorem jA : (Rows.heapKeepsUptoRow.inPlace == Tryz.prog.inPlace 3) = true := by kernel_rfl
theorem jB : (Rows.heapKeepsUptoRow.unfollowed == Tryz.prog.unfollowed 3) = true := by kernel_rfl
theorem jC : (Rows.heapKeepsUptoRow.recurses == Tryz.prog.recurses 3) = true := by kernel_rfl
theorem jD : (Rows.heapKeepsUptoRow.named == Tryz.prog.varsNamed 3) = true := by kernel_rfl
theorem jE : laidOutB Tryz.prog = true := by kernel_rfl
theorem jF : mapsRowed Tryz.prog = true := by kernel_rfl
theorem jG : joinedFacts Tryz.prog 3 Tryz.f3 (Rows.OpenSpec.upto Rows.heapKeepsSpec).bare Rows.heapKeepsUptoRow = true := by
  unfold joinedFacts
  rw [jA, jB, jC, jD, jE, jF]
  kernel_rfl
theorem over : Rows.heapKeepsUptoRow.holds Tryz.pinned (Rows.OpenSpec.upto Rows.heapKeepsSpec) :=
  OpenClaim.holds_of_cond 3 Tryz.f3 rfl rfl rfl rfl rfl rfl rfl ⟨rfl, rfl, rfl, rfl, rfl⟩ rfl rfl rfl rfl rfl (by kernel_rfl) Tryz.func3 jG
    (of_decide_eq_true (by kernel_rfl)) (by unfold Func.isWrapper; first | (rw [if_pos (by decide +kernel)]; kernel_rfl) | (rw [if_neg (by decide +kernel)]; exact ⟨rfl, rfl⟩))
    (fun os started H enc _ F => by rw [OpenClaim.pre_eq_preRow]; exact lifted os started H enc F)

theorem plain (f : FuncId) (fn : Func) (hf : Tryz.pinned.checked.prog.funcNamed "annals/annalslaw08.HeapKeeps" = some f) (hfn : Tryz.pinned.checked.prog.funcs[f]? = some fn) :
    true = Tryz.pinned.checked.prog.looks [] ∧ ∀ (j : Nat) t, fn.params[j]? = some t → Tryz.pinned.checked.prog.wantsStandIn t = false := by
  obtain rfl : f = 3 := Option.some.inj ((show Tryz.prog.funcNamed "annals/annalslaw08.HeapKeeps" = some 3 by kernel_rfl).symm.trans hf) |>.symm
  obtain rfl : fn = Tryz.f3 := (Option.some.inj (Tryz.func3.symm.trans hfn)).symm
  refine ⟨by kernel_rfl, fun j t ht => ?_⟩
  rw [Tryz.params3] at ht
  have hall : ([22] : List TypeId).all (fun t => !Tryz.prog.wantsStandIn t) = true := by kernel_rfl
  have := List.all_eq_true.1 hall t (by simpa using Array.mem_of_getElem? ht)
  exact (show Tryz.prog.wantsStandIn t = false by simpa using this)

theorem proved : Rows.HeapKeepsUptoCardSaid :=
  Claim7.holds_tied_plain_at .later [] _ _ _ _ over (fun _ h => by cases h) (by kernel_rfl) (fun _ h => by cases h) heapKeepsUpto_row_tie rfl ⟨rfl, rfl⟩ (by kernel_rfl) rfl plain (by kernel_rfl)
end Go.Proofs.YtiooeiapplnafaaGreatDoor.heapKeeps
