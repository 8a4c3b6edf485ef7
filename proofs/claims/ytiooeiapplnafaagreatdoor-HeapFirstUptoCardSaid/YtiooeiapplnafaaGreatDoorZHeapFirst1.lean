/- The law HeapFirst of annalslaw08 holds (its card): for all arguments of bulk at most 1048576 the call returns true and the arguments read as before. Condition: the bound of the second form. -/
import Derived.Test.YtiooeiapplnafaaGreatDoorZHeBase15
/- The statement HeapFirst. Conditions: that what is handed in can be read; sizes. -/
set_option linter.unusedSimpArgs false
set_option linter.unusedVariables false
namespace Go.Proofs.YtiooeiapplnafaaGreatDoor
open Go.RowKit
section
variable (d : List UInt8)
abbrev fE1 : En := ⟨1, 1, 0, 0, 0, d⟩
abbrev fE2 : En := ⟨3, 1, 0, 0, 1, []⟩
abbrev fE3 (t : Int) : En := ⟨2, t, 0, 0, 0, []⟩
abbrev fE4 (t : Int) : En := ⟨3, t, 0, 0, 2, []⟩
abbrev fU : Int := 0 + ((20 + d.length : Nat) : Int)
abbrev fS1 : HR := ⟨7, 2304, 0, [], [1], [], 1, []⟩
abbrev fS2 : HR := ⟨7, 2304, fU d, [⟨0, 0, 1, 0, d⟩], [1], [], 1, [fE1 d]⟩
abbrev fS4 : HR := ⟨7, 2304, fU d, [⟨0, 0, 1, 0, d⟩], [1, 2, 3], [], 3, [fE1 d]⟩
abbrev fS5 : HR := ⟨7, 2304, fU d + 25, [⟨0, 0, 1, 0, d⟩], [2, 3], [(1, 1)], 3, [fE1 d, fE2]⟩
abbrev fS6 : HR := ⟨7, 2304, fU d + 25 + 20, [⟨0, 0, 1, 2, d⟩], [2, 3], [(1, 1)], 3, [fE1 d, fE2, fE3 2]⟩
theorem sz3 (t s : Int) : enSz ⟨3, t, 0, 0, s, []⟩ = 25 := by rw [enSz_eq]; rfl
theorem sz2 (t p s : Int) : enSz ⟨2, t, p, s, 0, []⟩ = 20 := by rw [enSz_eq]; rfl
theorem hAdd_ok {h : HR} {t : Int} {q : Nat} (ha : isAct h t = true) (hl : d.length ≤ 184) (hr : roomyP h d.length = some q) (hu : h.used + 20 + d.length ≤ h.room) : addR' h t d = (writeR h (addE h t d q), (q : Int), ((pageV h.vs q).length : Int), 0) := by
  unfold addR'
  rw [if_pos ha, if_neg (by omega), hr]
  dsimp only
  rw [if_neg (by omega)]
theorem hAdd_long {h : HR} {t : Int} (ha : isAct h t = true) (hl : 184 < d.length) : addR' h t d = (h, 0, 0, 2) := by
  unfold addR'
  rw [if_pos ha, if_pos hl]
theorem hCm_ok {h : HR} {t s : Int} (ha : isAct h t = true) (hb : badStamp h s = false) (hu : h.used + 25 ≤ h.room) : commitR h t s = (writeR (withoutR h t) (cmE t s), 0) := by
  unfold commitR
  rw [if_pos ha, if_neg (by rw [hb]; simp), if_neg (by omega)]
theorem hEnd_ok {h : HR} {t p s : Int} {v : Ver} (ha : isAct h t = true) (hv : (findV h.vs p s).bind (h.vs[·]?) = some v) (h1 : ¬ ((v.beg ≠ t ∧ isCm h v.beg = false) ∨ v.fin = t ∨ isCm h v.fin = true)) (h2 : isAct h v.fin = false) (hu : h.used + 20 ≤ h.room) : endR h t p s = (writeR h (endE t p s), 0) := by
  unfold endR
  rw [if_pos ha, hv]
  dsimp only
  rw [if_neg h1, if_neg (by rw [h2]; simp), if_neg (by omega)]
theorem hEnd_busy {h : HR} {t p s : Int} {v : Ver} (ha : isAct h t = true) (hv : (findV h.vs p s).bind (h.vs[·]?) = some v) (h1 : ¬ ((v.beg ≠ t ∧ isCm h v.beg = false) ∨ v.fin = t ∨ isCm h v.fin = true)) (h2 : isAct h v.fin = true) : endR h t p s = (h, 71) := by
  unfold endR
  rw [if_pos ha, hv]
  dsimp only
  rw [if_neg h1, if_pos h2]
theorem hEnd_no {h : HR} {t p s : Int} {v : Ver} (ha : isAct h t = true) (hv : (findV h.vs p s).bind (h.vs[·]?) = some v) (h1 : ((v.beg ≠ t ∧ isCm h v.beg = false) ∨ v.fin = t ∨ isCm h v.fin = true)) : endR h t p s = (h, 4) := by
  unfold endR
  rw [if_pos ha, hv]
  dsimp only
  rw [if_pos h1]
theorem f1 : beginR (newR 7 (9 * 256)) = fS1 := rfl
theorem f2 (h : d.length ≤ 184) : addR' fS1 1 d = (fS2 d, 0, 0, 0) := by
  have h1 : roomyP fS1 d.length = some 0 := by
    unfold roomyP
    rw [show List.range fS1.pages = [0, 1, 2, 3, 4, 5, 6] from rfl]
    rw [List.find?_cons_of_pos (by have : usedP [] 0 = 13 := rfl; simp only [decide_eq_true_eq]; omega)]
  rw [hAdd_ok d rfl h h1 (by show (0 : Int) + 20 + d.length ≤ (2304 : Nat); omega)]
  simp only [writeR, enSz_eq, addE]
  rfl
theorem f2no (h : 184 < d.length) : addR' fS1 1 d = (fS1, 0, 0, 2) := hAdd_long d rfl h
theorem f3 : beginR (beginR (fS2 d)) = fS4 d := rfl
theorem f4 : endR (fS4 d) 2 0 0 = (fS4 d, 4) := hEnd_no rfl (v := ⟨0, 0, 1, 0, d⟩) rfl (.inl ⟨(by show (1 : Int) ≠ 2; decide), rfl⟩)
theorem f5 (h : d.length ≤ 184) : commitR (fS4 d) 1 1 = (fS5 d, 0) := by
  rw [hCm_ok rfl rfl (by show fU d + 25 ≤ (2304 : Nat); unfold fU; omega)]
  simp only [writeR, sz3]
  rfl
theorem f6 (h : d.length ≤ 184) : endR (fS5 d) 2 0 0 = (fS6 d, 0) := by
  rw [hEnd_ok rfl (v := ⟨0, 0, 1, 0, d⟩) rfl (fun h => by simp [isCm] at h) rfl (by show fU d + 25 + 20 ≤ (2304 : Nat); unfold fU; omega)]
  simp only [writeR, sz2]
  rfl
theorem f7 : endR (fS6 d) 3 0 0 = (fS6 d, 71) := hEnd_busy rfl (v := ⟨0, 0, 1, 2, d⟩) rfl (fun h => by simp [isCm] at h) rfl
abbrev fS7 : HR := ⟨7, 2304, fU d + 25 + 20, [⟨0, 0, 1, 2, d⟩], [3], [(1, 1)], 3, [fE1 d, fE2, fE3 2]⟩
abbrev fS8 : HR := ⟨7, 2304, fU d + 25 + 20 + 20, [⟨0, 0, 1, 3, d⟩], [3], [(1, 1)], 3, [fE1 d, fE2, fE3 2, fE3 3]⟩
abbrev fS9 : HR := ⟨7, 2304, fU d + 25 + 20 + 20 + 25, [⟨0, 0, 1, 3, d⟩], [], [(1, 1), (3, 2)], 3, [fE1 d, fE2, fE3 2, fE3 3, fE4 3]⟩
abbrev fSA : HR := ⟨7, 2304, fU d + 25 + 20 + 25, [⟨0, 0, 1, 2, d⟩], [3], [(1, 1), (2, 2)], 3, [fE1 d, fE2, fE3 2, fE4 2]⟩
theorem f8 : abortR (fS6 d) 2 = (fS7 d, 0) := by unfold abortR; rw [if_pos (show isAct (fS6 d) 2 = true from rfl)]; rfl
theorem f9 (h : d.length ≤ 184) : endR (fS7 d) 3 0 0 = (fS8 d, 0) := by
  rw [hEnd_ok rfl (v := ⟨0, 0, 1, 2, d⟩) rfl (fun h => by simp [isCm] at h) rfl (by show fU d + 25 + 20 + 20 ≤ (2304 : Nat); unfold fU; omega)]
  simp only [writeR, sz2]
  rfl
theorem fA (h : d.length ≤ 184) : commitR (fS8 d) 3 2 = (fS9 d, 0) := by
  rw [hCm_ok rfl rfl (by show fU d + 25 + 20 + 20 + 25 ≤ (2304 : Nat); unfold fU; omega)]
  simp only [writeR, sz3]
  rfl
theorem fB : allR (fS9 d) = [⟨0, 0, 1, 3, d⟩] := rfl
theorem fC (h : d.length ≤ 184) : commitR (fS6 d) 2 2 = (fSA d, 0) := by
  rw [hCm_ok rfl rfl (by show fU d + 25 + 20 + 25 ≤ (2304 : Nat); unfold fU; omega)]
  simp only [writeR, sz3]
  rfl
theorem fD : endR (fSA d) 3 0 0 = (fSA d, 4) := hEnd_no rfl (v := ⟨0, 0, 1, 2, d⟩) rfl (.inr (.inr rfl))
theorem fE : allR (fSA d) = [⟨0, 0, 1, 2, d⟩] := rfl
end
set_option maxHeartbeats 4000000 in
set_option maxRecDepth 100000 in
theorem Hp.first (B : Base) (vb : Value) (d : List UInt8) (hb : RoS B vb (bytesV d)) (hlb : d.length ≤ 1048576) (ab : Bool) : Fn Tryz.prog B 4 #[vb, .bool ab] [] (fun v l => v = .bool true ∧ l = []) := by
 obtain ⟨ba, bc, rfl⟩ := (hb.rd []).form (m := d.length) (by simp)
 refine Fn.enter2 130 Tryz.func4 rfl rfl (Nat.le_of_ble_eq_true rfl) (fun F => ?_)
 try simp only [List.cons_append, List.nil_append]
 refine T.seq ?_
 refine T.region ?_
 refine LW.q rfl (Qt.assign rfl) ?_
 refine LW.done ?_
 refine T.seq ?_
 refine T.seq ?_
 refine T.region ?_
 refine LW.e rfl (Ef.call (Hp.awake B) Tryz.func15 rfl rfl rfl ?_)
 rintro _ _ ⟨rfl, rfl⟩
 try simp only [List.cons_append, List.nil_append]
 refine LW.q rfl (Qt.notB rfl) ?_
 refine LW.done ?_
 refine T.condF rfl ?_
 refine T.skip ?_
 refine T.seq ?_
 refine T.region ?_
 refine LW.e rfl (Ef.call (Hp.opened B 16 9 7 2 16 9 2 rfl rfl rfl (by omega) (by omega) rfl (by omega) (by omega) (by omega)) Tryz.func16 rfl rfl rfl ?_)
 rintro _ _ ⟨b, g, rfl, rfl⟩
 try simp only [List.cons_append, List.nil_append]
 refine LW.q rfl (Qt.move rfl) ?_
 refine LW.q rfl (Qt.extr rfl rfl) ?_
 refine LW.q rfl (Qt.extr rfl rfl) ?_
 refine LW.q rfl (Qt.extr rfl rfl) ?_
 refine LW.q rfl (Qt.assign rfl) ?_
 refine LW.q rfl (Qt.assign rfl) ?_
 refine LW.q rfl (Qt.assign rfl) ?_
 refine LW.done ?_
 refine T.seq ?_
 refine T.seq ?_
 refine T.region ?_
 refine LW.q rfl (Qt.move rfl) ?_
 refine LW.q rfl (Qt.eqlNil (by kernel_rfl) rfl rfl) ?_
 refine LW.done ?_
 refine T.condF rfl ?_
 refine T.skip ?_
 refine T.seq ?_
 refine T.region ?_
 refine LW.q rfl (Qt.move rfl) ?_
 refine LW.q rfl (Qt.nilCheck rfl) ?_
 refine LW.q rfl (Qt.fieldAddr0 (by kernel_rfl) rfl) ?_
 refine LW.e rfl (Ef.call (Hp.begin B g b 9 7 2 7 (newR 7 (9 * 256)) (by omega)) Tryz.func17 rfl rfl rfl ?_)
 rintro _ _ ⟨rfl, rfl⟩
 try simp only [List.cons_append, List.nil_append]
 rw [f1, show (newR 7 (9 * 256)).last + 1 = 1 from rfl]
 refine LW.q rfl (Qt.assign rfl) ?_
 refine LW.done ?_
 refine T.seq ?_
 refine T.region ?_
 refine LW.q rfl (Qt.move rfl) ?_
 refine LW.q rfl (Qt.move rfl) ?_
 refine LW.q rfl (Qt.move rfl) ?_
 refine LW.e rfl (Ef.call (Hp.add B [] g b 9 7 2 8 fS1 (by omega) 1 ba bc d (hb.rd _) (by omega)) Tryz.func18 rfl rfl rfl ?_)
 rintro _ _ ⟨rfl, rfl⟩
 try simp only [List.cons_append, List.nil_append]
 by_cases hd : 184 < d.length
 ·
  rw [f2no d hd]
  refine LW.q rfl (Qt.move rfl) ?_
  refine LW.q rfl (Qt.extr rfl rfl) ?_
  refine LW.q rfl (Qt.extr rfl rfl) ?_
  refine LW.e rfl (Ef.alloc [.int .i64 0, .int .i64 0] (by unfold zeroB; kernel_rfl) ?_)
  intro g9
  refine LW.e0 rfl (Ef.store [_, _] (by kernel_rfl) rfl rfl rfl rfl (by simp) ?_)
  try simp only [splice, List.length_cons, List.length_nil, List.drop_succ_cons, List.cons_append, List.take_succ_cons, List.take_zero, List.drop_zero, List.nil_append, List.append_nil]
  refine LW.q rfl (Qt.assign rfl) ?_
  refine LW.done ?_
  refine T.seq ?_
  refine T.seq ?_
  refine T.region ?_
  refine LW.q rfl (Qt.move rfl) ?_
  refine LW.q rfl (Qt.neq rfl rfl) ?_
  refine LW.done ?_
  refine T.condT rfl ?_
  refine T.seq ?_
  refine T.region ?_
  refine LW.q rfl (Qt.move rfl) ?_
  refine LW.q rfl (Qt.len (e := 5) (sz := 1) (by kernel_rfl) rfl) ?_
  refine LW.q rfl (Qt.gtr rfl rfl) ?_
  refine LW.q rfl (Qt.move rfl) ?_
  refine LW.gT (t := 38) rfl (decide_eq_true (by omega)) ?_
  refine LW.q rfl (Qt.move rfl) ?_
  refine LW.q rfl (Qt.eql rfl rfl) ?_
  refine LW.q rfl (Qt.pick rfl rfl) ?_
  refine LW.q rfl (Qt.assign rfl) ?_
  refine LW.done ?_
  refine T.ret ?_
  exact ⟨.inl rfl, _, _, res [_] rfl ⟨rvT rfl, trivial⟩, ⟨rfl, rfl⟩, Sub.any⟩
 ·
  have hd2 : d.length ≤ 184 := by omega
  rw [f2 d hd2]
  refine LW.q rfl (Qt.move rfl) ?_
  refine LW.q rfl (Qt.extr rfl rfl) ?_
  refine LW.q rfl (Qt.extr rfl rfl) ?_
  refine LW.e rfl (Ef.alloc [.int .i64 0, .int .i64 0] (by unfold zeroB; kernel_rfl) ?_)
  intro g9
  refine LW.e0 rfl (Ef.store [_, _] (by kernel_rfl) rfl rfl rfl rfl (by simp) ?_)
  try simp only [splice, List.length_cons, List.length_nil, List.drop_succ_cons, List.cons_append, List.take_succ_cons, List.take_zero, List.drop_zero, List.nil_append, List.append_nil]
  refine LW.q rfl (Qt.assign rfl) ?_
  refine LW.done ?_
  refine T.seq ?_
  refine T.seq ?_
  refine T.region ?_
  refine LW.q rfl (Qt.move rfl) ?_
  refine LW.q rfl (Qt.neq rfl rfl) ?_
  refine LW.done ?_
  refine T.condF rfl ?_
  refine T.skip ?_
  refine T.seq ?_
  refine T.drawBl 9 none (by kernel_rfl) (Nat.le_of_ble_eq_true rfl) (by kernel_rfl) ?_
  refine RW.q 0 rfl rfl (by kernel_rfl) Sub.any (Qt.move rfl) ?_
  refine RW.q 1 rfl rfl (by kernel_rfl) Sub.any (Qt.nilCheck rfl) ?_
  refine RW.q 2 rfl rfl (by kernel_rfl) Sub.any (Qt.fieldAddr0 (by kernel_rfl) rfl) ?_
  refine RW.q 4 rfl rfl (by kernel_rfl) Sub.any (Qt.move rfl) ?_
  refine RW.q 5 rfl rfl (by kernel_rfl) Sub.any (Qt.nilCheck rfl) ?_
  refine RW.q 6 rfl rfl (by kernel_rfl) Sub.any (Qt.fieldAddr0 (by kernel_rfl) rfl) ?_
  refine RW.one 3 (by kernel_rfl) ?_
  refine RO.eS rfl rfl (Ef.call (Hp.begin B g b 9 7 2 16 (fS2 d) (by omega)) Tryz.func17 rfl rfl rfl ?_)
  rintro _ _ ⟨rfl, rfl⟩
  try simp only [List.cons_append, List.nil_append]
  refine ⟨Sub.any, ?_⟩
  refine RW.one 7 (by kernel_rfl) ?_
  refine RO.r rfl rfl (by kernel_rfl) (Ef.call (Hp.begin B g b 9 7 2 17 (beginR (fS2 d)) (by omega)) Tryz.func17 rfl rfl rfl ?_)
  rintro _ _ ⟨rfl, rfl⟩
  try simp only [List.cons_append, List.nil_append]
  rw [f3, show (fS2 d).last + 1 = 2 from rfl, show (beginR (fS2 d)).last + 1 = 3 from rfl]
  refine RW.q 8 rfl rfl (by kernel_rfl) (Sub.refl _) (Qt.assign rfl) ?_
  refine RW.done (by rfl) ?_
  simp only [List.drop_succ_cons, List.drop_zero, List.drop_nil]
  refine LW.q rfl (Qt.assign rfl) ?_
  refine LW.done ?_
  refine T.seq ?_
  refine T.seq ?_
  refine T.region ?_
  refine LW.q rfl (Qt.move rfl) ?_
  refine LW.q rfl (Qt.move rfl) ?_
  refine LW.q rfl (Qt.loadAgg [_, _] (by kernel_rfl) rfl ⟨rfl, rfl, trivial⟩) ?_
  refine LW.e rfl (Ef.call (Hp.end_ B g b 9 7 2 18 (fS4 d) (by omega) 2 0 0) Tryz.func22 rfl rfl rfl ?_)
  rintro _ _ ⟨rfl, rfl⟩
  try simp only [List.cons_append, List.nil_append]
  rw [f4 d]
  refine LW.q rfl (Qt.neq rfl rfl) ?_
  refine LW.q rfl (Qt.move rfl) ?_
  refine LW.gF (t := 55) rfl rfl ?_
  refine LW.q rfl (Qt.move rfl) ?_
  refine LW.q rfl (Qt.move rfl) ?_
  refine LW.e rfl (Ef.call (Hp.commit B g b 9 7 2 20 (fS4 d) (by omega) 1 1 (by simp)) Tryz.func20 rfl rfl rfl ?_)
  rintro _ _ ⟨rfl, rfl⟩
  try simp only [List.cons_append, List.nil_append]
  rw [f5 d hd2]
  refine LW.q rfl (Qt.neq rfl rfl) ?_
  refine LW.q rfl (Qt.pick rfl rfl) ?_
  refine LW.q rfl (Qt.move rfl) ?_
  refine LW.gF (t := 61) rfl rfl ?_
  refine LW.q rfl (Qt.move rfl) ?_
  refine LW.q rfl (Qt.move rfl) ?_
  refine LW.q rfl (Qt.loadAgg [_, _] (by kernel_rfl) rfl ⟨rfl, rfl, trivial⟩) ?_
  refine LW.e rfl (Ef.call (Hp.end_ B g b 9 7 2 20 (fS5 d) (by omega) 2 0 0) Tryz.func22 rfl rfl rfl ?_)
  rintro _ _ ⟨rfl, rfl⟩
  try simp only [List.cons_append, List.nil_append]
  rw [f6 d hd2]
  refine LW.q rfl (Qt.neq rfl rfl) ?_
  refine LW.q rfl (Qt.pick rfl rfl) ?_
  refine LW.q rfl (Qt.move rfl) ?_
  refine LW.gF (t := 68) rfl rfl ?_
  refine LW.q rfl (Qt.move rfl) ?_
  refine LW.q rfl (Qt.move rfl) ?_
  refine LW.q rfl (Qt.loadAgg [_, _] (by kernel_rfl) rfl ⟨rfl, rfl, trivial⟩) ?_
  refine LW.e rfl (Ef.call (Hp.end_ B g b 9 7 2 22 (fS6 d) (by omega) 3 0 0) Tryz.func22 rfl rfl rfl ?_)
  rintro _ _ ⟨rfl, rfl⟩
  try simp only [List.cons_append, List.nil_append]
  rw [f7 d]
  refine LW.q rfl (Qt.neq rfl rfl) ?_
  refine LW.q rfl (Qt.pick rfl rfl) ?_
  refine LW.done ?_
  refine T.condF rfl ?_
  refine T.skip ?_
  refine T.seq ?_
  refine T.seq ?_
  refine T.region ?_
  refine LW.q rfl (Qt.move rfl) ?_
  refine LW.done ?_
  refine T.cond rfl (fun hab => ?_) (fun hab => ?_)
  ·
   refine T.seq ?_
   refine T.region ?_
   refine LW.q rfl (Qt.move rfl) ?_
   refine LW.q rfl (Qt.nilCheck rfl) ?_
   refine LW.q rfl (Qt.fieldAddr0 (by kernel_rfl) rfl) ?_
   refine LW.q rfl (Qt.move rfl) ?_
   refine LW.e rfl (Ef.call (Hp.abort B g b 9 7 2 24 (fS6 d) 2) Tryz.func23 rfl rfl rfl ?_)
   rintro _ _ ⟨rfl, rfl⟩
   try simp only [List.cons_append, List.nil_append]
   rw [f8 d]
   refine LW.q rfl (Qt.eql rfl rfl) ?_
   refine LW.q rfl (Qt.move rfl) ?_
   refine LW.gT (t := 82) rfl rfl ?_
   refine LW.q rfl (Qt.move rfl) ?_
   refine LW.q rfl (Qt.move rfl) ?_
   refine LW.q rfl (Qt.loadAgg [_, _] (by kernel_rfl) rfl ⟨rfl, rfl, trivial⟩) ?_
   refine LW.e rfl (Ef.call (Hp.end_ B g b 9 7 2 24 (fS7 d) (by omega) 3 0 0) Tryz.func22 rfl rfl rfl ?_)
   rintro _ _ ⟨rfl, rfl⟩
   try simp only [List.cons_append, List.nil_append]
   rw [f9 d hd2]
   refine LW.q rfl (Qt.eql rfl rfl) ?_
   refine LW.q rfl (Qt.pick rfl rfl) ?_
   refine LW.q rfl (Qt.move rfl) ?_
   refine LW.gT (t := 89) rfl rfl ?_
   refine LW.q rfl (Qt.move rfl) ?_
   refine LW.q rfl (Qt.move rfl) ?_
   refine LW.e rfl (Ef.call (Hp.commit B g b 9 7 2 26 (fS8 d) (by omega) 3 2 (by simp)) Tryz.func20 rfl rfl rfl ?_)
   rintro _ _ ⟨rfl, rfl⟩
   try simp only [List.cons_append, List.nil_append]
   rw [fA d hd2]
   refine LW.q rfl (Qt.eql rfl rfl) ?_
   refine LW.q rfl (Qt.pick rfl rfl) ?_
   refine LW.q rfl (Qt.move rfl) ?_
   refine LW.gT (t := 95) rfl rfl ?_
   refine LW.q rfl (Qt.move rfl) ?_
   refine LW.e rfl (Ef.call (Hp.all B g b 9 7 2 26 (fS9 d) (by omega)) Tryz.func19 rfl rfl rfl ?_)
   rintro _ _ ⟨L, p, c, hL1, hL2, rfl, rfl⟩
   try simp only [List.cons_append, List.nil_append]
   rw [fB d] at hL2
   obtain ⟨x, rfl, hxv⟩ := one_map hL2
   refine LW.own fun w ho => ?_
   obtain ⟨g4, rfl⟩ : ∃ g, p = some ⟨g, 0, none⟩ := ((ho.map Sub.any : Own B w [vmR p 1 c [x]]).slice_at (p := p) (m := 1) (c := c)).2.1 (by omega)
   clear ho
   rw [show [x].length = 1 from rfl]
   refine LW.q rfl (Qt.index 0 (e := 45) (sz := 5) (by kernel_rfl) rfl rfl rfl (by omega)) ?_
   refine LW.q rfl (Qt.fieldAddr (off := 3) (by kernel_rfl) rfl) ?_
   refine LW.q rfl (Qt.load (v := .int .i64 3) (by kernel_rfl) rfl (by have := ver_at (L := [x]) (j := 0) rfl 3 (by omega) rfl; rw [hxv] at this; simpa using this)) ?_
   refine LW.q rfl (Qt.move rfl) ?_
   refine LW.q rfl (Qt.eql rfl rfl) ?_
   refine LW.q rfl (Qt.pick rfl rfl) ?_
   refine LW.q rfl (Qt.assign rfl) ?_
   refine LW.done ?_
   refine T.ret ?_
   exact ⟨.inl rfl, _, _, res [_] rfl ⟨rvT rfl, trivial⟩, ⟨rfl, rfl⟩, Sub.any⟩
  ·
   refine T.skip ?_
   refine T.seq ?_
   refine T.region ?_
   refine LW.q rfl (Qt.move rfl) ?_
   refine LW.q rfl (Qt.move rfl) ?_
   refine LW.e rfl (Ef.call (Hp.commit B g b 9 7 2 24 (fS6 d) (by omega) 2 2 (by simp)) Tryz.func20 rfl rfl rfl ?_)
   rintro _ _ ⟨rfl, rfl⟩
   try simp only [List.cons_append, List.nil_append]
   rw [fC d hd2]
   refine LW.q rfl (Qt.eql rfl rfl) ?_
   refine LW.q rfl (Qt.move rfl) ?_
   refine LW.gT (t := 108) rfl rfl ?_
   refine LW.q rfl (Qt.move rfl) ?_
   refine LW.q rfl (Qt.move rfl) ?_
   refine LW.q rfl (Qt.loadAgg [_, _] (by kernel_rfl) rfl ⟨rfl, rfl, trivial⟩) ?_
   refine LW.e rfl (Ef.call (Hp.end_ B g b 9 7 2 24 (fSA d) (by omega) 3 0 0) Tryz.func22 rfl rfl rfl ?_)
   rintro _ _ ⟨rfl, rfl⟩
   try simp only [List.cons_append, List.nil_append]
   rw [fD d]
   refine LW.q rfl (Qt.eql rfl rfl) ?_
   refine LW.q rfl (Qt.pick rfl rfl) ?_
   refine LW.q rfl (Qt.move rfl) ?_
   refine LW.gT (t := 115) rfl rfl ?_
   refine LW.q rfl (Qt.move rfl) ?_
   refine LW.e rfl (Ef.call (Hp.all B g b 9 7 2 26 (fSA d) (by omega)) Tryz.func19 rfl rfl rfl ?_)
   rintro _ _ ⟨L, p, c, hL1, hL2, rfl, rfl⟩
   try simp only [List.cons_append, List.nil_append]
   rw [fE d] at hL2
   obtain ⟨x, rfl, hxv⟩ := one_map hL2
   rw [show [x].length = 1 from rfl]
   refine LW.q rfl (Qt.len (e := 45) (sz := 5) (by kernel_rfl) rfl) ?_
   refine LW.q rfl (Qt.eql rfl rfl) ?_
   refine LW.q rfl (Qt.pick rfl rfl) ?_
   refine LW.q rfl (Qt.move rfl) ?_
   refine LW.gT (t := 121) rfl rfl ?_
   refine LW.q rfl (Qt.move rfl) ?_
   refine LW.e rfl (Ef.call (Hp.all B g b 9 7 2 33 (fSA d) (by omega)) Tryz.func19 rfl rfl rfl ?_)
   rintro _ _ ⟨L2, p2, c2, hL3, hL4, rfl, rfl⟩
   try simp only [List.cons_append, List.nil_append]
   rw [fE d] at hL4
   obtain ⟨x2, rfl, hxv2⟩ := one_map hL4
   refine LW.own fun w ho => ?_
   obtain ⟨g4, rfl⟩ : ∃ g, p2 = some ⟨g, 0, none⟩ := ((ho.map Sub.any : Own B w [vmR p2 1 c2 [x2]]).slice_at (p := p2) (m := 1) (c := c2)).2.1 (by omega)
   clear ho
   rw [show [x2].length = 1 from rfl]
   refine LW.q rfl (Qt.index 0 (e := 45) (sz := 5) (by kernel_rfl) rfl rfl rfl (by omega)) ?_
   refine LW.q rfl (Qt.fieldAddr (off := 3) (by kernel_rfl) rfl) ?_
   refine LW.q rfl (Qt.load (v := .int .i64 2) (by kernel_rfl) rfl (by have := ver_at (L := [x2]) (j := 0) rfl 3 (by omega) rfl; rw [hxv2] at this; simpa using this)) ?_
   refine LW.q rfl (Qt.move rfl) ?_
   refine LW.q rfl (Qt.eql rfl rfl) ?_
   refine LW.q rfl (Qt.pick rfl rfl) ?_
   refine LW.q rfl (Qt.assign rfl) ?_
   refine LW.done ?_
   refine T.ret ?_
   exact ⟨.inl rfl, _, _, res [_] rfl ⟨rvT rfl, trivial⟩, ⟨rfl, rfl⟩, Sub.any⟩
end Go.Proofs.YtiooeiapplnafaaGreatDoor

/- The law HeapFirst of annalslaw08 holds (its card): for all arguments of bulk at most 1048576 the call returns true and the arguments read as before. Condition: the bound of the second form. -/
set_option linter.unusedSimpArgs false
set_option linter.unusedVariables false
namespace Go.Proofs.YtiooeiapplnafaaGreatDoor.heapFirst
open Go.ChangeShapes Go.WideShapes Go.ChangeAt Go.RowKit

set_option maxRecDepth 100000 in
theorem contract (H : Type) (enc : TypeId × Value → H) (W : World) (base : Nat) (args : Array Value) (ds gs : List (DataW H)) (before : List MemPlace)
    (hval : ∀ (j : Nat) t v, Tryz.f4.params[j]? = some t → args[j]? = some v → Value.okWide Tryz.prog W .any base t v)
    (hW : DataW.Whole enc Tryz.prog Tryz.f4.params.toList Rows.heapFirstSpec.vars false W args.toList ds gs before) (hk : Rows.uptoSmall H (ds ++ gs) = true) :
    Calls Tryz.prog 4 args W fun e W' => ∃ v, e = .returned v ∧ Rows.heapFirstSpec.post enc Tryz.prog Tryz.f4 false true false false W args v W' := by
  have hW0 := hW
  obtain ⟨p, q, hA0, hV, rfl, hfz, hnd⟩ := hW
  have hA : DataW.TrodAll enc Tryz.prog W 0 (fun _ => true) true Tryz.f4.params.toList args.toList ds p := hA0
  rw [Tryz.params4] at hA hval
  obtain ⟨v0, v1, d0, d1, p0, p1, rfl, rfl, rfl, h0, h1⟩ := trodAll_two hA
  obtain ⟨rfl, rfl⟩ := trodVars_none hV
  have hbulk := Tryz.upto_bound hk
  rw [List.append_nil] at hbulk
  clear hA0 hV hk
  obtain ⟨sa0, sl0, sc0, rfl⟩ := okWide_slice Tryz.underlying22 (hval 0 22 v0 rfl rfl)
  obtain ⟨fu0, t0⟩ := h0
  obtain ⟨sv0, l0, hc0, hs0, hB0, hL0⟩ := open_slice_R (enc := enc) (P := Tryz.prog) (W := W) (R := fun cs (a : UInt8) => cs = [.int .u8 a.toNat]) (B := fun _ => 1) Tryz.underlying22 (show Tryz.prog.cellsOf 5 = 1 by kernel_rfl) (by omega) (fun n cs y => read_u8 Tryz.underlying5 n cs y) t0
  simp only [Value.cells, List.cons.injEq, and_true] at hc0
  subst hc0
  dsimp only at hB0 hL0
  obtain ⟨fp0, hR0, hfp0⟩ := hs0.reads (fun a : UInt8 => Value.int .u8 a.toNat) (fun cs a h => h)
  obtain ⟨b1, rfl⟩ := okWide_bool Tryz.underlying4 (hval 1 4 v1 rfl rfl)
  rw [bulk_two] at hbulk

  refine (Fn.law (Hp.first _ _ l0 (RoS.ofReads hR0) (by omega) b1)).mono fun e W' ⟨he, hg⟩ => ?_
  subst he
  exact ⟨_, rfl, post_law Tryz.laidOut hW0 rfl rfl 4 Tryz.underlying4 (by kernel_rfl) (by rw [Tryz.params4]; decide +kernel) hg.toBelow⟩

theorem reads (os : Os) {H : Type} (enc : TypeId × Value → H) : ∃ places, DataW.whole enc Tryz.prog ((laidWorld os).forCall (fun _ _ => 0) ⟨#[], #[.slice none 0 0, .bool false], []⟩).memory Tryz.f4.params.toList Rows.heapFirstSpec.vars false (#[.slice none 0 0, .bool false] : Array Value).toList 8 = some ([.nil, .lit (.bool false)], [], places) :=
  ⟨[], by kernel_rfl⟩

set_option maxRecDepth 100000 in
theorem lifted (os : Os) (started : os.Started) (H : Type) (enc : TypeId × Value → H) (F : Stop.Interp) :
    ReturnsInHanded {} Tryz.checked os 4 .any ((Rows.OpenSpec.upto Rows.heapFirstSpec).preRow enc Tryz.prog Tryz.f4 Rows.heapFirstUptoRow.domain false Rows.heapFirstUptoRow.laid) (((Rows.OpenSpec.upto Rows.heapFirstSpec).at F).post enc Tryz.prog Tryz.f4 false true false false) := by
  obtain ⟨places, hx⟩ := reads os enc
  refine returnsInHanded_of_row (C := Tryz.checked) (s := Rows.OpenSpec.upto Rows.heapFirstSpec) Tryz.own started (by kernel_rfl) Tryz.func4
    (witness_row_at (enc := enc) (C := Tryz.checked) false (laidWorld os) #[.slice none 0 0, .bool false] rfl (by kernel_rfl) (by kernel_rfl) (by kernel_rfl)
      (OpenSpec.preRow_of_cond 8 hx (by kernel_rfl) (fun k hk => by cases hk; kernel_rfl) (by kernel_rfl) (laid_met os _))) ?_
  intro W base args ds gs before hval hW _ hcond _ _ _ _
  exact contract H enc W base args ds gs before hval hW (hcond _ rfl)

theorem jA : (Rows.heapFirstUptoRow.inPlace == Tryz.prog.inPlace 4) = true := by kernel_rfl
theorem jB : (Rows.heapFirstUptoRow.unfollowed == Tryz.prog.unfollowed 4) = true := by kernel_rfl
theorem jC : (Rows.heapFirstUptoRow.recurses == Tryz.prog.recurses 4) = true := by kernel_rfl
theorem jD : (Rows.heapFirstUptoRow.named == Tryz.prog.varsNamed 4) = true := by kernel_rfl
theorem jE : laidOutB Tryz.prog = true := by kernel_rfl
theorem jF : mapsRowed Tryz.prog = true := by kernel_rfl
theorem jG : joinedFacts Tryz.prog 4 Tryz.f4 (Rows.OpenSpec.upto Rows.heapFirstSpec).bare Rows.heapFirstUptoRow = true := by
  unfold joinedFacts
  rw [jA, jB, jC, jD, jE, jF]
  kernel_rfl
theorem over : Rows.heapFirstUptoRow.holds Tryz.pinned (Rows.OpenSpec.upto Rows.heapFirstSpec) :=
  OpenClaim.holds_of_cond 4 Tryz.f4 rfl rfl rfl rfl rfl rfl rfl ⟨rfl, rfl, rfl, rfl, rfl⟩ rfl rfl rfl rfl rfl (by kernel_rfl) Tryz.func4 jG
    (of_decide_eq_true (by kernel_rfl)) (by unfold Func.isWrapper; first | (rw [if_pos (by decide +kernel)]; kernel_rfl) | (rw [if_neg (by decide +kernel)]; exact ⟨rfl, rfl⟩))
    (fun os started H enc _ F => by rw [OpenClaim.pre_eq_preRow]; exact lifted os started H enc F)

theorem plain (f : FuncId) (fn : Func) (hf : Tryz.pinned.checked.prog.funcNamed "annals/annalslaw08.HeapFirst" = some f) (hfn : Tryz.pinned.checked.prog.funcs[f]? = some fn) :
    true = Tryz.pinned.checked.prog.looks [] ∧ ∀ (j : Nat) t, fn.params[j]? = some t → Tryz.pinned.checked.prog.wantsStandIn t = false := by
  obtain rfl : f = 4 := Option.some.inj ((show Tryz.prog.funcNamed "annals/annalslaw08.HeapFirst" = some 4 by kernel_rfl).symm.trans hf) |>.symm
  obtain rfl : fn = Tryz.f4 := (Option.some.inj (Tryz.func4.symm.trans hfn)).symm
  refine ⟨by kernel_rfl, fun j t ht => ?_⟩
  rw [Tryz.params4] at ht
  have hall : ([22, 4] : List TypeId).all (fun t => !Tryz.prog.wantsStandIn t) = true := by kernel_rfl
  have := List.all_eq_true.1 hall t (by simpa using Array.mem_of_getElem? ht)
  exact (show Tryz.prog.wantsStandIn t = false by simpa using this)

theorem proved : Rows.HeapFirstUptoCardSaid :=
  Claim7.holds_tied_plain_at .later [] _ _ _ _ over (fun _ h => by cases h) (by kernel_rfl) (fun _ h => by cases h) heapFirstUpto_row_tie rfl ⟨rfl, rfl⟩ (by kernel_rfl) rfl plain (by kernel_rfl)
end Go.Proofs.YtiooeiapplnafaaGreatDoor.heapFirst
