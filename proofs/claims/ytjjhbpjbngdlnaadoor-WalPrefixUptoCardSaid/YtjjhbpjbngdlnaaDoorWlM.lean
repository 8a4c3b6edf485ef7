/- The statement WalParts. Conditions: that what is handed in can be read; sizes. -/
import Derived.Test.YtjjhbpjbngdlnaaDoorWlL
import Derived.Test.YtjjhbpjbngdlnaaDoorLaw
set_option linter.unusedSimpArgs false
set_option linter.unusedVariables false
namespace Go.Proofs.YtjjhbpjbngdlnaaDoor
open Go.RowKit

/-- A slice of slices of bytes that lies in memory that is only read. -/
def RoLB (B : Base) (v : Value) (l : List (List UInt8)) : Prop := ∃ a cap, v = .slice a l.length cap ∧ l.length ≤ cap ∧ (l = [] ∨ ∃ b o C, a = some ⟨b, o, none⟩ ∧ ROc B b C ∧
  ∀ i (hi : i < l.length), ∃ da dc, rdl C (o + i * 1) [.slice da l[i].length dc] ∧ RoS B (.slice da l[i].length dc) (bytesV l[i]))
theorem RoLB.parts {B : Base} {v : Value} {l : List (List UInt8)} (h : RoLB B v l) (S : List Assn) : PartsV B S v l := by
  obtain ⟨a, cap, rfl, _, h | ⟨b, o, C, rfl, k, h⟩⟩ := h
  · subst h
    exact ⟨[], ⟨a, cap, rfl, .inl rfl⟩, rfl, fun i h => by simp at h⟩
  · obtain ⟨vs, hl, hvs⟩ := choose_list (n := l.length) (Q := fun i v => C[o + i]? = some v ∧ ∀ h : i < l.length, RdV B S v (bytesV l[i])) (fun i hi => by
      obtain ⟨da, dc, e1, e2⟩ := h i hi
      have e1 := e1.1
      rw [Nat.mul_one] at e1
      exact ⟨_, e1, fun _ => e2.rd S⟩)
    refine ⟨vs, ⟨_, cap, by rw [hl], .inr ⟨b, o, rfl, fun w ho => ho.range (g := b) (C := C) (fun j u hj => ?_)⟩⟩, hl, fun i h1 h2 => (hvs i h1).2 h2⟩
    obtain ⟨hj1, rfl⟩ := List.getElem?_eq_some_iff.1 hj
    exact (hvs j hj1).1

/-- The same record added to two logs that have none. -/
theorem addW_two (f1 f2 count : Nat) (hc : 1024 + 8 ≤ count * 256) (d : List UInt8) : ∃ ds x e, addW (mkW f1 count [] 0) d = (mkW f1 count ds 0, x, e) ∧ addW (mkW f2 count [] 0) d = (mkW f2 count ds 0, x, e) ∧ (logB 0 0 ds).length ≤ count * 256 ∧ (e ≠ 0 → x = 0 ∧ ds = []) := by
  by_cases h : OkD d
  · have hd := h.2
    have hr : (logB 0 0 []).length + 8 + d.length ≤ count * 256 := by simp only [logB, List.length_nil]; omega
    exact ⟨[d], _, 0, addW_mk h hr, addW_mk h hr, by simp [logB, length_recB]; omega, fun h => absurd rfl h⟩
  · rcases addW_cases (mkW f1 count [] 0) d with (⟨h0, e⟩ | ⟨h0, h1, e⟩ | ⟨h0, h1, h2, e⟩) | ⟨h0, _⟩
    · exact ⟨[], 0, 5, e, by unfold addW; rw [if_pos h0], by simp [logB], fun _ => ⟨rfl, rfl⟩⟩
    · exact ⟨[], 0, 2, e, by unfold addW; rw [if_neg h0, if_pos h1], by simp [logB], fun _ => ⟨rfl, rfl⟩⟩
    · exact absurd ⟨h0, h1⟩ h
    · exact absurd h0 h

set_option maxHeartbeats 4000000 in
set_option maxRecDepth 100000 in
theorem Wl.parts (B : Base) (v : Value) (ls : List (List UInt8)) (hv : RoLB B v ls) (h1 : ls.length ≤ 1048576) (h2 : ls.flatten.length ≤ 1048576) : Fn Tryd.prog B 9 #[v] [] (fun v l => v = .bool true ∧ l = []) := by
  have hparts := fun S => hv.parts S
  obtain ⟨a, c, rfl, hcap, hcell⟩ := hv
  obtain ⟨ds, x, e, a1, a2, a3, a4⟩ := addW_two 0 10 10 (by omega) ls.flatten
  refine Fn.enter1 142 Tryd.func9 rfl rfl (Nat.le_of_ble_eq_true rfl) (fun F => ?_)
  try simp only [List.cons_append, List.nil_append]
  refine T.seq ?_
  refine T.region ?_
  refine LW.q rfl (Qt.assign rfl) ?_
  refine LW.done ?_
  refine T.seq ?_
  refine T.seq ?_
  refine T.region ?_
  refine LW.e rfl (Ef.call (Wl.awake B) Tryd.func23 rfl rfl rfl ?_)
  rintro _ _ ⟨rfl, rfl⟩
  try simp only [List.cons_append, List.nil_append]
  first | refine LW.q rfl (Qt.notP rfl) ?_ | refine LW.q rfl (Qt.notB rfl) ?_
  refine LW.done ?_
  first | refine T.condF rfl ?_ | refine T.condPF rfl (by omega) ?_ | refine T.condBF rfl (by omega) ?_
  refine T.skip ?_
  refine T.seq ?_
  refine T.region ?_
  refine LW.e rfl (Ef.call (Dk.newF B 20 20 rfl (by omega) (by omega)) Tryd.func24 rfl rfl rfl ?_)
  rintro _ _ ⟨bd, rfl, rfl⟩
  try simp only [List.cons_append, List.nil_append]
  refine LW.q rfl (Qt.move rfl) ?_
  refine LW.q rfl (Qt.extract rfl rfl) ?_
  refine LW.q rfl (Qt.extract rfl rfl) ?_
  refine LW.q rfl (Qt.assign rfl) ?_
  refine LW.q rfl (Qt.assign rfl) ?_
  refine LW.done ?_
  refine T.seq ?_
  refine T.seq ?_
  refine T.region ?_
  refine LW.q rfl (Qt.move rfl) ?_
  first | refine LW.q rfl (Qt.eqlNil (by kernel_rfl) rfl rfl) ?_ | refine LW.q rfl (Qt.eqlNN (by kernel_rfl) rfl rfl) ?_
  refine LW.done ?_
  first | refine T.condF rfl ?_ | refine T.condPF rfl (by omega) ?_ | refine T.condBF rfl (by omega) ?_
  refine T.skip ?_
  refine T.seq ?_
  refine T.region ?_
  refine LW.q rfl (Qt.move rfl) ?_
  refine LW.e rfl (Ef.call (Wl.openText B bd ⟨List.replicate 20 zs, []⟩ 0 10 [] 0 10 rfl rfl (by omega) (by simp) (by simp) (Secs.new (by omega)) (by simp) (by simp [logB])) Tryd.func25 rfl rfl rfl ?_)
  rintro _ _ ⟨ga, q1, cq1, R1, D1, e1, e2, e3, e4, e5, e6, rfl, rfl⟩
  try simp only [List.cons_append, List.nil_append]
  refine LW.q rfl (Qt.move rfl) ?_
  refine LW.q rfl (Qt.extract rfl rfl) ?_
  refine LW.q rfl (Qt.extract rfl rfl) ?_
  refine LW.q rfl (Qt.extract rfl rfl) ?_
  refine LW.q rfl (Qt.assign rfl) ?_
  refine LW.q rfl (Qt.assign rfl) ?_
  refine LW.q rfl (Qt.assign rfl) ?_
  refine LW.done ?_
  refine T.seq ?_
  refine T.region ?_
  refine LW.q rfl (Qt.move rfl) ?_
  have hl1 : D1.secs.length = 20 := by rw [e3]; rfl
  have s1 : Secs D1 10 10 (logB 0 0 []) := fun j hj => by rw [e6 _ (by simp; omega) (by omega)]; exact Secs.new (n := 20) (first := 10) (count := 10) (by omega) j hj
  refine LW.e rfl (Ef.call (Wl.openText B bd D1 10 10 [] 10 10 rfl rfl (by omega) (by omega) (by rw [e4]; simp) s1 (by simp) (by simp [logB])) Tryd.func25 rfl rfl rfl ?_)
  rintro _ _ ⟨gb, q2, cq2, R2, D2, k1, k2, k3, k4, k5, k6, rfl, rfl⟩
  try simp only [List.cons_append, List.nil_append]
  rw [show (logB 0 0 []).length = 0 from rfl]
  refine LW.q rfl (Qt.move rfl) ?_
  refine LW.q rfl (Qt.extract rfl rfl) ?_
  refine LW.q rfl (Qt.extract rfl rfl) ?_
  refine LW.q rfl (Qt.extract rfl rfl) ?_
  refine LW.q rfl (Qt.assign rfl) ?_
  refine LW.q rfl (Qt.assign rfl) ?_
  refine LW.q rfl (Qt.assign rfl) ?_
  refine LW.done ?_
  refine T.seq ?_
  refine T.seq ?_
  refine T.region ?_
  refine LW.q rfl (Qt.move rfl) ?_
  first | refine LW.q rfl (Qt.eqlNil (by kernel_rfl) rfl rfl) ?_ | refine LW.q rfl (Qt.eqlNN (by kernel_rfl) rfl rfl) ?_
  refine LW.q rfl (Qt.move rfl) ?_
  have hl2 : D2.secs.length = 20 := by rw [k3]; exact hl1
  have s2 : Secs D2 0 10 (logB 0 0 []) := fun j hj => by rw [k6 _ (by omega) (by omega)]; exact e5 j hj
  first | refine LW.gF (t := 45) rfl rfl ?_ | refine LW.gF (t := 45) rfl (decide_eq_false (by omega)) ?_ | refine LW.gF (t := 45) rfl (by omega) ?_
  refine LW.q rfl (Qt.move rfl) ?_
  first | refine LW.q rfl (Qt.eqlNil (by kernel_rfl) rfl rfl) ?_ | refine LW.q rfl (Qt.eqlNN (by kernel_rfl) rfl rfl) ?_
  refine LW.q rfl (Qt.pick rfl rfl) ?_
  refine LW.done ?_
  first | refine T.condF rfl ?_ | refine T.condPF rfl (by omega) ?_ | refine T.condBF rfl (by omega) ?_
  refine T.skip ?_
  refine T.seq ?_
  refine T.region ?_
  refine LW.e rfl (Ef.empty Cd.elemB ?_)
  rintro g49
  try simp only [List.cons_append, List.nil_append]
  rw [show (row (.slice (some ⟨g49, 0, none⟩) 0 0) 5 1 0 [] : Assn) = rB (.slice (some ⟨g49, 0, none⟩) 0 0) 0 [] from rfl]
  refine LW.q rfl (Qt.assign rfl) ?_
  refine LW.done ?_
  refine T.seq ?_
  refine T.seq ?_
  refine T.region ?_
  refine LW.q rfl (Qt.move rfl) ?_
  refine LW.q rfl (Qt.len (e := 22) (sz := 1) (by kernel_rfl) rfl) ?_
  refine LW.q rfl (Qt.move rfl) ?_
  refine LW.done ?_
  refine T.block ?_
  refine T.loop (fun mz fz lz => ∃ (f0 : Fr) (k m : Nat) (p : Option Addr) (cc : Nat) (acc : List UInt8), (k ≤ ls.length ∧ acc = (ls.take k).flatten ∧ m = acc.length) ∧ mz = ls.length - k ∧ fz = (upd (upd (upd (upd (upd (upd (upd (upd f0 0 (.slice a ls.length c)) 3 (.pointer (some ⟨bd, 0, none⟩))) 5 (.pointer (some ⟨ga, 0, none⟩))) 8 (.pointer (some ⟨gb, 0, none⟩))) 11 (.slice p m cc)) 50 (.slice a ls.length c)) 51 (.int .i64 ls.length)) 52 (.int .i64 k)) ∧ lz = rB (.slice p m cc) m acc :: wlA ga bd (mkW 0 10 [] 0) :: wlA gb bd (mkW 10 10 [] 0) :: dskA bd D2 :: F) ?_ ?_
  · refine ⟨_, _, ⟨_, 0, 0, some ⟨g49, 0, none⟩, 0, [], ⟨Nat.zero_le _, rfl, rfl⟩, rfl, (updS rfl (updS rfl (updS rfl (updS rfl (updS rfl (updS rfl (updS rfl (updS rfl rfl)))))))), rfl⟩, Sub.any⟩
  · skip
    rintro mz fz lz ⟨f0, k, m, p, cc, acc, ⟨hk, hacc, hm⟩, hmz, rfl, rfl⟩
    subst mz
    try simp only [List.cons_append, List.nil_append]
    refine T.seq ?_
    refine T.region ?_
    refine LW.q rfl (Qt.lss rfl rfl) ?_
    refine LW.done ?_
    refine T.seq ?_
    refine T.condP rfl (fun hlt => ?_) (fun hlt => ?_)
    · skip
      obtain ⟨kb, ko, C, rfl, hro, hC⟩ := hcell.resolve_left (by intro e; rw [e] at hlt; simp at hlt; omega)
      obtain ⟨da, dc, hrd, hdv⟩ := hC k (by omega)
      have hft := flat_take ls k (by omega)
      have hfl := flat_le ls (k + 1)
      obtain ⟨xk, hxk⟩ : ∃ xk, ls[k]'(by omega) = xk := ⟨_, rfl⟩
      rw [hxk] at hrd hdv hft
      rw [hft, List.length_append, ← hacc, ← hm] at hfl
      refine T.skip ?_
      refine T.seq ?_
      refine T.block ?_
      refine T.seq ?_
      refine T.region ?_
      refine LW.q rfl (Qt.index _ (e := 22) (sz := 1) (by kernel_rfl) rfl rfl rfl (by omega)) ?_
      refine LW.q rfl (Qt.load (v := .slice da xk.length dc) (by kernel_rfl) rfl hrd.1) ?_
      refine LW.q rfl (Qt.assign rfl) ?_
      refine LW.done ?_
      refine T.region ?_
      refine LW.q rfl (Qt.move rfl) ?_
      refine LW.q rfl (Qt.move rfl) ?_
      refine LW.e rfl (Ef.append Cd.elemB rfl rfl (SrcOf.rd (m := xk.length) (hdv.rd _) (by kernel_rfl) (by simp) one_bytesV) (by unfold maxLen; omega) (by omega) ?_)
      rintro p1 c1 hp1
      try simp only [List.cons_append, List.nil_append]
      rw [← bytesV_append]
      refine LW.q rfl (Qt.assign rfl) ?_
      refine LW.done ?_
      refine T.region ?_
      refine LW.q rfl (Qt.add rfl rfl (wr64 (by omega) (by omega))) ?_
      refine LW.q rfl (Qt.move rfl) ?_
      refine LW.done ?_
      refine ⟨_, ?_, _, ⟨_, k + 1, m + xk.length, p1, c1, acc ++ xk, ⟨by omega, by rw [hft, hacc], by rw [hm]; simp⟩, rfl, (updS rfl (updS rfl (updS rfl (updS rfl (updS rfl (updS rfl (updS rfl (updS rfl rfl)))))))), rfl⟩, Sub.any⟩
      first | omega | (simp; omega)
    · skip
      obtain rfl : k = ls.length := by omega
      rw [List.take_length] at hacc
      subst hacc
      subst hm
      refine T.own (fun w ho => ?_)
      have hp3 : 0 < ls.flatten.length → ∃ g, p = some ⟨g, 0, none⟩ := (ho.slice_at (p := p) (m := ls.flatten.length) (c := cc)).2.1
      clear ho
      refine T.exit ?_
      refine T.seq ?_
      refine T.region ?_
      refine LW.q rfl (Qt.move rfl) ?_
      refine LW.q rfl (Qt.move rfl) ?_
      refine LW.e rfl (Ef.call (Wl.add B [] ga bd (mkW 0 10 [] 0) a c ls ls.length rfl (hparts []) hcap (by omega) ls.flatten rfl (by omega) (by simp [mkW]) (by simp [mkW, logB])) Tryd.func26 rfl rfl rfl ?_)
      rintro _ _ ⟨rfl, rfl⟩
      try simp only [List.cons_append, List.nil_append]
      simp only [a1]
      refine LW.q rfl (Qt.move rfl) ?_
      refine LW.q rfl (Qt.extract rfl rfl) ?_
      refine LW.q rfl (Qt.extract rfl rfl) ?_
      refine LW.q rfl (Qt.assign rfl) ?_
      refine LW.q rfl (Qt.assign rfl) ?_
      refine LW.done ?_
      refine T.seq ?_
      refine T.region ?_
      refine LW.q rfl (Qt.move rfl) ?_
      refine LW.q rfl (Qt.move rfl) ?_
      refine LW.e rfl (Ef.one [_] (e := 22) (sz := 1) (by kernel_rfl) ⟨.slice none 0 0, by kernel_rfl, rfl⟩ rfl rfl rfl (by omega) (by omega) ?_)
      intro g69
      refine LW.e rfl (Ef.call (Wl.add B [blk g69 [.slice p ls.flatten.length cc] 22, rB (.slice p ls.flatten.length cc) ls.flatten.length ls.flatten] gb bd (mkW 10 10 [] 0) (some ⟨g69, 0, none⟩) 1 [ls.flatten] 1 rfl (PartsV.one ((RdV.rB rfl hp3).mono (fun w ho => ho.tl))) (by simp) (by simp) ls.flatten (by simp) (by omega) (by simp [mkW]) (by simp [mkW, logB])) Tryd.func26 rfl rfl rfl ?_)
      rintro _ _ ⟨rfl, rfl⟩
      try simp only [List.cons_append, List.nil_append]
      simp only [a2]
      refine LW.q rfl (Qt.move rfl) ?_
      refine LW.q rfl (Qt.extract rfl rfl) ?_
      refine LW.q rfl (Qt.extract rfl rfl) ?_
      refine LW.q rfl (Qt.assign rfl) ?_
      refine LW.q rfl (Qt.assign rfl) ?_
      refine LW.done ?_
      refine T.seq ?_
      refine T.seq ?_
      refine T.region ?_
      refine LW.q rfl (Qt.move rfl) ?_
      refine LW.q rfl (Qt.move rfl) ?_
      refine LW.q rfl (Qt.neq rfl rfl) ?_
      refine LW.q rfl (Qt.move rfl) ?_
      by_cases he : e = 0
      · skip
        first | refine LW.gF (t := 76) rfl rfl ?_ | refine LW.gF (t := 76) rfl (decide_eq_false (by omega)) ?_ | refine LW.gF (t := 76) rfl (by omega) ?_
        refine LW.q rfl (Qt.move rfl) ?_
        refine LW.q rfl (Qt.move rfl) ?_
        refine LW.q rfl (Qt.neq rfl rfl) ?_
        refine LW.q rfl (Qt.pick rfl rfl) ?_
        refine LW.q rfl (Qt.move rfl) ?_
        first | refine LW.gF (t := 81) rfl rfl ?_ | refine LW.gF (t := 81) rfl (decide_eq_false (by omega)) ?_ | refine LW.gF (t := 81) rfl (by omega) ?_
        refine LW.q rfl (Qt.move rfl) ?_
        refine LW.e rfl (Ef.call (Wl.endOf B ga bd (mkW 0 10 ds 0) (by simp only [mkW]; omega)) Tryd.func39 rfl rfl rfl ?_)
        rintro _ _ ⟨rfl, rfl⟩
        try simp only [List.cons_append, List.nil_append]
        refine LW.q rfl (Qt.move rfl) ?_
        refine LW.e rfl (Ef.call (Wl.endOf B gb bd (mkW 10 10 ds 0) (by simp only [mkW]; omega)) Tryd.func39 rfl rfl rfl ?_)
        rintro _ _ ⟨rfl, rfl⟩
        try simp only [List.cons_append, List.nil_append]
        refine LW.q rfl (Qt.neq rfl rfl) ?_
        refine LW.q rfl (Qt.pick rfl rfl) ?_
        refine LW.q rfl (Qt.move rfl) ?_
        first | refine LW.gF (t := 88) rfl rfl ?_ | refine LW.gF (t := 88) rfl (decide_eq_false ((by simp [mkW]))) ?_ | refine LW.gF (t := 88) rfl ((by simp [mkW])) ?_
        refine LW.q rfl (Qt.move rfl) ?_
        refine LW.q rfl (Qt.neq rfl rfl) ?_
        refine LW.q rfl (Qt.move rfl) ?_
        first | refine LW.gF (t := 91) rfl rfl ?_ | refine LW.gF (t := 91) rfl (decide_eq_false (by omega)) ?_ | refine LW.gF (t := 91) rfl (by omega) ?_
        refine LW.s rfl ?_
        refine LW.s rfl ?_
        refine LW.s rfl ?_
        refine LW.s rfl ?_
        refine LW.s rfl ?_
        refine LW.s rfl ?_
        refine LW.s rfl ?_
        refine LW.s rfl ?_
        refine LW.s rfl ?_
        refine LW.s rfl ?_
        refine LW.s rfl ?_
        refine LW.s rfl ?_
        refine LW.q rfl (Qt.pick rfl rfl) ?_
        refine LW.q rfl (Qt.pick rfl rfl) ?_
        refine LW.done ?_
        first | refine T.condF rfl ?_ | refine T.condPF rfl (by omega) ?_ | refine T.condBF rfl (by omega) ?_
        have W1s : (mkW 0 10 ds 0).st.length ≤ 2560 := a3
        have W2s : (mkW 10 10 ds 0).st.length ≤ 2560 := a3
        obtain ⟨f1, f2, f3⟩ := flushE_ok (W := mkW 0 10 ds 0) k2 (by simp [mkW]; omega) (by simp only [mkW]; omega) (Nat.zero_le _) k4
        have f4 := flushE_secs (W := mkW 0 10 ds 0) k2 (by simp [mkW]; omega) s2 (Nat.zero_le _) (by simp only [mkW]; omega)
        have f5 := fun x => flushE_out (W := mkW 0 10 ds 0) k2 (by simp [mkW]; omega) (Nat.zero_le _) (by simp only [mkW]; omega) (x := x)
        obtain ⟨D3, hD3⟩ : ∃ D3, flushE (mkW 0 10 ds 0) D2 = D3 := ⟨_, rfl⟩
        rw [hD3] at f1 f2 f3 f4 f5
        have s3 : Secs D3 10 10 (logB 0 0 []) := fun j hj => by rw [f5 _ (by omega) (.inr (by simp only [mkW]; omega))]; exact k5 j hj
        have hl3 : D3.secs.length = 20 := f2.trans hl2
        refine T.skip ?_
        refine T.seq ?_
        refine T.region ?_
        refine LW.q rfl (Qt.move rfl) ?_
        refine LW.e rfl (Ef.call (Wl.flush B ga bd (mkW 0 10 ds 0) D2 (by simp [mkW]; omega) (by omega) (by simp only [mkW]; omega) (Nat.zero_le _) (by rw [k4]; simp)) Tryd.func27 rfl rfl rfl ?_)
        rintro _ _ ⟨rfl, rfl⟩
        try simp only [List.cons_append, List.nil_append]
        rw [hD3, flushed_mk]
        refine LW.done ?_
        refine T.seq ?_
        refine T.region ?_
        refine LW.q rfl (Qt.move rfl) ?_
        obtain ⟨i1, i2, i3⟩ := flushE_ok (W := mkW 10 10 ds 0) f1 (by simp [mkW]; omega) (by simp only [mkW]; omega) (Nat.zero_le _) f3
        have i4 := flushE_secs (W := mkW 10 10 ds 0) f1 (by simp [mkW]; omega) s3 (Nat.zero_le _) (by simp only [mkW]; omega)
        have i5 := fun x => flushE_out (W := mkW 10 10 ds 0) f1 (by simp [mkW]; omega) (Nat.zero_le _) (by simp only [mkW]; omega) (x := x)
        obtain ⟨D4, hD4⟩ : ∃ D4, flushE (mkW 10 10 ds 0) D3 = D4 := ⟨_, rfl⟩
        rw [hD4] at i1 i2 i3 i4 i5
        have hl4 : D4.secs.length = 20 := i2.trans hl3
        have hrd : ∀ n, n < 10 → D4.read n = secW (logB 0 0 ds) n ∧ D4.read (n + 10) = secW (logB 0 0 ds) n := fun n hn => ⟨by rw [i5 _ (by omega) (.inl (by simp only [mkW]; omega))]; have := f4 n hn; simpa [mkW] using this, by have := i4 n hn; rw [Nat.add_comm]; simpa [mkW] using this⟩
        refine LW.e rfl (Ef.call (Wl.flush B gb bd (mkW 10 10 ds 0) D3 (by simp [mkW]; omega) (by omega) (by simp only [mkW]; omega) (Nat.zero_le _) (by rw [f3]; simp)) Tryd.func27 rfl rfl rfl ?_)
        rintro _ _ ⟨rfl, rfl⟩
        try simp only [List.cons_append, List.nil_append]
        rw [hD4, flushed_mk]
        refine LW.done ?_
        refine T.seq ?_
        refine T.seq ?_
        refine T.region ?_
        refine LW.q rfl (Qt.assign rfl) ?_
        refine LW.done ?_
        refine T.block ?_
        refine T.loop (fun mz fz lz => ∃ (f0 : Fr) (n : Nat), (n ≤ 10) ∧ mz = 10 - n ∧ fz = (upd (upd (upd f0 3 (.pointer (some ⟨bd, 0, none⟩))) 5 (.pointer (some ⟨ga, 0, none⟩))) 18 (.int .i64 n)) ∧ lz = wlA ga bd (mkW 0 10 ds (logB 0 0 ds).length) :: dskA bd D4 :: F) ?_ ?_
        · refine ⟨_, _, ⟨_, 0, Nat.zero_le _, rfl, (updS rfl (updS rfl (updS rfl rfl))), rfl⟩, Sub.any⟩
        · skip
          rintro mz fz lz ⟨f0, n, hn, hmz, rfl, rfl⟩
          subst mz
          try simp only [List.cons_append, List.nil_append]
          refine T.seq ?_
          refine T.seq ?_
          refine T.region ?_
          refine LW.q rfl (Qt.move rfl) ?_
          refine LW.q rfl (Qt.lss rfl rfl) ?_
          refine LW.done ?_
          refine T.condP rfl (fun hlt2 => ?_) (fun hlt2 => ?_)
          · skip
            obtain ⟨r1, r2⟩ := hrd n (by omega)
            refine T.skip ?_
            refine T.seq ?_
            refine T.block ?_
            refine T.seq ?_
            refine T.region ?_
            refine LW.q rfl (Qt.move rfl) ?_
            refine LW.q rfl (Qt.move rfl) ?_
            refine LW.e rfl (Ef.call (Dk.readF B bd D4 n n rfl (by omega) (by rw [i3]; simp)) Tryd.func43 rfl rfl rfl ?_)
            rintro _ _ ⟨g5, c5, rfl, rfl⟩
            try simp only [List.cons_append, List.nil_append]
            rw [r1]
            refine LW.q rfl (Qt.move rfl) ?_
            refine LW.q rfl (Qt.extract rfl rfl) ?_
            refine LW.q rfl (Qt.extract rfl rfl) ?_
            refine LW.q rfl (Qt.assign rfl) ?_
            refine LW.q rfl (Qt.assign rfl) ?_
            refine LW.done ?_
            refine T.seq ?_
            refine T.region ?_
            refine LW.q rfl (Qt.move rfl) ?_
            refine LW.q rfl (Qt.move rfl) ?_
            refine LW.q rfl (Qt.add rfl rfl (wr64 (by omega) (by omega))) ?_
            refine LW.e rfl (Ef.call (Dk.readF B bd D4 (n + 10) _ (by omega) (by omega) (by rw [i3]; simp)) Tryd.func43 rfl rfl rfl ?_)
            rintro _ _ ⟨g6, c6, rfl, rfl⟩
            try simp only [List.cons_append, List.nil_append]
            rw [r2]
            refine LW.q rfl (Qt.move rfl) ?_
            refine LW.q rfl (Qt.extract rfl rfl) ?_
            refine LW.q rfl (Qt.extract rfl rfl) ?_
            refine LW.q rfl (Qt.assign rfl) ?_
            refine LW.q rfl (Qt.assign rfl) ?_
            refine LW.done ?_
            refine T.seq ?_
            refine T.region ?_
            refine LW.q rfl (Qt.move rfl) ?_
            refine LW.q rfl (Qt.str (secW (logB 0 0 ds) n) (by kernel_rfl) (by kernel_rfl) rfl (fun w ho => (RdV.rB (p := some ⟨g5, 0, none⟩) (c := c5) (length_secW _ _) (fun _ => ⟨_, rfl⟩)).reads w (ho.map Sub.any))) ?_
            refine LW.q rfl (Qt.move rfl) ?_
            refine LW.q rfl (Qt.str (secW (logB 0 0 ds) n) (by kernel_rfl) (by kernel_rfl) rfl (fun w ho => (RdV.rB (p := some ⟨g6, 0, none⟩) (c := c6) (length_secW _ _) (fun _ => ⟨_, rfl⟩)).reads w (ho.map Sub.any))) ?_
            refine LW.q rfl (Qt.neqS rfl rfl) ?_
            refine LW.done ?_
            first | refine T.condF rfl ?_ | refine T.condPF rfl ((by simp)) ?_ | refine T.condBF rfl ((by simp)) ?_
            refine T.skip ?_
            refine T.region ?_
            refine LW.q rfl (Qt.move rfl) ?_
            refine LW.q rfl (Qt.add rfl rfl (wr64 (by omega) (by omega))) ?_
            refine LW.q rfl (Qt.assign rfl) ?_
            refine LW.done ?_
            refine ⟨_, ?_, _, ⟨_, n + 1, by omega, rfl, (updS rfl (updS rfl (updS rfl rfl))), rfl⟩, Sub.any⟩
            first | omega | (simp; omega)
          · skip
            refine T.exit ?_
            refine T.seq ?_
            refine T.region ?_
            refine LW.q rfl (Qt.move rfl) ?_
            refine LW.e rfl (Ef.call (Dk.pendingF B bd D4) Tryd.func44 rfl rfl rfl ?_)
            rintro _ _ ⟨rfl, rfl⟩
            try simp only [List.cons_append, List.nil_append]
            rw [i3]
            refine LW.q rfl (Qt.eql rfl rfl) ?_
            refine LW.q rfl (Qt.move rfl) ?_
            first | refine LW.gT (t := 135) rfl rfl ?_ | refine LW.gT (t := 135) rfl (decide_eq_true (by omega)) ?_ | refine LW.gT (t := 135) rfl (by omega) ?_
            refine LW.q rfl (Qt.move rfl) ?_
            refine LW.e rfl (Ef.call (Wl.durable B ga bd (mkW 0 10 ds (logB 0 0 ds).length) (by simp only [mkW]; omega)) Tryd.func41 rfl rfl rfl ?_)
            rintro _ _ ⟨rfl, rfl⟩
            try simp only [List.cons_append, List.nil_append]
            refine LW.q rfl (Qt.move rfl) ?_
            refine LW.e rfl (Ef.call (Wl.endOf B ga bd (mkW 0 10 ds (logB 0 0 ds).length) (by simp only [mkW]; omega)) Tryd.func39 rfl rfl rfl ?_)
            rintro _ _ ⟨rfl, rfl⟩
            try simp only [List.cons_append, List.nil_append]
            refine LW.q rfl (Qt.eql rfl rfl) ?_
            refine LW.q rfl (Qt.pick rfl rfl) ?_
            refine LW.q rfl (Qt.assign rfl) ?_
            refine LW.done ?_
            refine T.ret ?_
            exact ⟨.inl rfl, _, _, res [_] rfl ⟨rvT rfl, trivial⟩, ⟨by simp [outV, mkW], rfl⟩, Sub.any⟩
      · skip
        obtain ⟨rfl, rfl⟩ := a4 he
        first | refine LW.gF (t := 76) rfl rfl ?_ | refine LW.gF (t := 76) rfl (decide_eq_false (by omega)) ?_ | refine LW.gF (t := 76) rfl (by omega) ?_
        refine LW.q rfl (Qt.move rfl) ?_
        refine LW.q rfl (Qt.move rfl) ?_
        refine LW.q rfl (Qt.neq rfl rfl) ?_
        refine LW.q rfl (Qt.pick rfl rfl) ?_
        refine LW.q rfl (Qt.move rfl) ?_
        first | refine LW.gF (t := 81) rfl rfl ?_ | refine LW.gF (t := 81) rfl (decide_eq_false (by omega)) ?_ | refine LW.gF (t := 81) rfl (by omega) ?_
        refine LW.q rfl (Qt.move rfl) ?_
        refine LW.e rfl (Ef.call (Wl.endOf B ga bd (mkW 0 10 [] 0) (by simp [mkW, logB])) Tryd.func39 rfl rfl rfl ?_)
        rintro _ _ ⟨rfl, rfl⟩
        try simp only [List.cons_append, List.nil_append]
        refine LW.q rfl (Qt.move rfl) ?_
        refine LW.e rfl (Ef.call (Wl.endOf B gb bd (mkW 10 10 [] 0) (by simp [mkW, logB])) Tryd.func39 rfl rfl rfl ?_)
        rintro _ _ ⟨rfl, rfl⟩
        try simp only [List.cons_append, List.nil_append]
        refine LW.q rfl (Qt.neq rfl rfl) ?_
        refine LW.q rfl (Qt.pick rfl rfl) ?_
        refine LW.q rfl (Qt.move rfl) ?_
        first | refine LW.gF (t := 88) rfl rfl ?_ | refine LW.gF (t := 88) rfl (decide_eq_false ((by simp [mkW]))) ?_ | refine LW.gF (t := 88) rfl ((by simp [mkW])) ?_
        refine LW.q rfl (Qt.move rfl) ?_
        refine LW.q rfl (Qt.neq rfl rfl) ?_
        refine LW.q rfl (Qt.move rfl) ?_
        first | refine LW.gT (t := 91) rfl rfl ?_ | refine LW.gT (t := 91) rfl (decide_eq_true (by omega)) ?_ | refine LW.gT (t := 91) rfl (by omega) ?_
        refine LW.q rfl (Qt.move rfl) ?_
        refine LW.q rfl (Qt.neq rfl rfl) ?_
        refine LW.q rfl (Qt.move rfl) ?_
        first | refine LW.gF (t := 94) rfl rfl ?_ | refine LW.gF (t := 94) rfl (decide_eq_false (by omega)) ?_ | refine LW.gF (t := 94) rfl (by omega) ?_
        refine LW.q rfl (Qt.move rfl) ?_
        refine LW.e rfl (Ef.call (Wl.endOf B ga bd (mkW 0 10 [] 0) (by simp [mkW, logB])) Tryd.func39 rfl rfl rfl ?_)
        rintro _ _ ⟨rfl, rfl⟩
        try simp only [List.cons_append, List.nil_append]
        refine LW.q rfl (Qt.neq rfl rfl) ?_
        refine LW.q rfl (Qt.pick rfl rfl) ?_
        refine LW.q rfl (Qt.move rfl) ?_
        first | refine LW.gF (t := 99) rfl rfl ?_ | refine LW.gF (t := 99) rfl (decide_eq_false ((by simp [mkW, logB]))) ?_ | refine LW.gF (t := 99) rfl ((by simp [mkW, logB])) ?_
        refine LW.q rfl (Qt.move rfl) ?_
        refine LW.e rfl (Ef.call (Wl.left B ga bd (mkW 0 10 [] 0) (by simp [mkW, logB]) (by simp [mkW])) Tryd.func40 rfl rfl rfl ?_)
        rintro _ _ ⟨rfl, rfl⟩
        try simp only [List.cons_append, List.nil_append]
        refine LW.q rfl (Qt.neq rfl rfl) ?_
        refine LW.q rfl (Qt.pick rfl rfl) ?_
        refine LW.q rfl (Qt.pick rfl rfl) ?_
        refine LW.q rfl (Qt.pick rfl rfl) ?_
        refine LW.done ?_
        first | refine T.condF rfl ?_ | refine T.condPF rfl ((by simp [mkW, logB])) ?_ | refine T.condBF rfl ((by simp [mkW, logB])) ?_
        have W1s : (mkW 0 10 [] 0).st.length ≤ 2560 := a3
        have W2s : (mkW 10 10 [] 0).st.length ≤ 2560 := a3
        obtain ⟨f1, f2, f3⟩ := flushE_ok (W := mkW 0 10 [] 0) k2 (by simp [mkW]; omega) (by simp only [mkW]; omega) (Nat.zero_le _) k4
        have f4 := flushE_secs (W := mkW 0 10 [] 0) k2 (by simp [mkW]; omega) s2 (Nat.zero_le _) (by simp only [mkW]; omega)
        have f5 := fun x => flushE_out (W := mkW 0 10 [] 0) k2 (by simp [mkW]; omega) (Nat.zero_le _) (by simp only [mkW]; omega) (x := x)
        obtain ⟨D3, hD3⟩ : ∃ D3, flushE (mkW 0 10 [] 0) D2 = D3 := ⟨_, rfl⟩
        rw [hD3] at f1 f2 f3 f4 f5
        have s3 : Secs D3 10 10 (logB 0 0 []) := fun j hj => by rw [f5 _ (by omega) (.inr (by simp only [mkW]; omega))]; exact k5 j hj
        have hl3 : D3.secs.length = 20 := f2.trans hl2
        refine T.skip ?_
        refine T.seq ?_
        refine T.region ?_
        refine LW.q rfl (Qt.move rfl) ?_
        refine LW.e rfl (Ef.call (Wl.flush B ga bd (mkW 0 10 [] 0) D2 (by simp [mkW]; omega) (by omega) (by simp only [mkW]; omega) (Nat.zero_le _) (by rw [k4]; simp)) Tryd.func27 rfl rfl rfl ?_)
        rintro _ _ ⟨rfl, rfl⟩
        try simp only [List.cons_append, List.nil_append]
        rw [hD3, flushed_mk]
        refine LW.done ?_
        refine T.seq ?_
        refine T.region ?_
        refine LW.q rfl (Qt.move rfl) ?_
        obtain ⟨i1, i2, i3⟩ := flushE_ok (W := mkW 10 10 [] 0) f1 (by simp [mkW]; omega) (by simp only [mkW]; omega) (Nat.zero_le _) f3
        have i4 := flushE_secs (W := mkW 10 10 [] 0) f1 (by simp [mkW]; omega) s3 (Nat.zero_le _) (by simp only [mkW]; omega)
        have i5 := fun x => flushE_out (W := mkW 10 10 [] 0) f1 (by simp [mkW]; omega) (Nat.zero_le _) (by simp only [mkW]; omega) (x := x)
        obtain ⟨D4, hD4⟩ : ∃ D4, flushE (mkW 10 10 [] 0) D3 = D4 := ⟨_, rfl⟩
        rw [hD4] at i1 i2 i3 i4 i5
        have hl4 : D4.secs.length = 20 := i2.trans hl3
        have hrd : ∀ n, n < 10 → D4.read n = secW (logB 0 0 []) n ∧ D4.read (n + 10) = secW (logB 0 0 []) n := fun n hn => ⟨by rw [i5 _ (by omega) (.inl (by simp only [mkW]; omega))]; have := f4 n hn; simpa [mkW] using this, by have := i4 n hn; rw [Nat.add_comm]; simpa [mkW] using this⟩
        refine LW.e rfl (Ef.call (Wl.flush B gb bd (mkW 10 10 [] 0) D3 (by simp [mkW]; omega) (by omega) (by simp only [mkW]; omega) (Nat.zero_le _) (by rw [f3]; simp)) Tryd.func27 rfl rfl rfl ?_)
        rintro _ _ ⟨rfl, rfl⟩
        try simp only [List.cons_append, List.nil_append]
        rw [hD4, flushed_mk]
        refine LW.done ?_
        refine T.seq ?_
        refine T.seq ?_
        refine T.region ?_
        refine LW.q rfl (Qt.assign rfl) ?_
        refine LW.done ?_
        refine T.block ?_
        refine T.loop (fun mz fz lz => ∃ (f0 : Fr) (n : Nat), (n ≤ 10) ∧ mz = 10 - n ∧ fz = (upd (upd (upd f0 3 (.pointer (some ⟨bd, 0, none⟩))) 5 (.pointer (some ⟨ga, 0, none⟩))) 18 (.int .i64 n)) ∧ lz = wlA ga bd (mkW 0 10 [] (logB 0 0 []).length) :: dskA bd D4 :: F) ?_ ?_
        · refine ⟨_, _, ⟨_, 0, Nat.zero_le _, rfl, (updS rfl (updS rfl (updS rfl rfl))), rfl⟩, Sub.any⟩
        · skip
          rintro mz fz lz ⟨f0, n, hn, hmz, rfl, rfl⟩
          subst mz
          try simp only [List.cons_append, List.nil_append]
          refine T.seq ?_
          refine T.seq ?_
          refine T.region ?_
          refine LW.q rfl (Qt.move rfl) ?_
          refine LW.q rfl (Qt.lss rfl rfl) ?_
          refine LW.done ?_
          refine T.condP rfl (fun hlt2 => ?_) (fun hlt2 => ?_)
          · skip
            obtain ⟨r1, r2⟩ := hrd n (by omega)
            refine T.skip ?_
            refine T.seq ?_
            refine T.block ?_
            refine T.seq ?_
            refine T.region ?_
            refine LW.q rfl (Qt.move rfl) ?_
            refine LW.q rfl (Qt.move rfl) ?_
            refine LW.e rfl (Ef.call (Dk.readF B bd D4 n n rfl (by omega) (by rw [i3]; simp)) Tryd.func43 rfl rfl rfl ?_)
            rintro _ _ ⟨g5, c5, rfl, rfl⟩
            try simp only [List.cons_append, List.nil_append]
            rw [r1]
            refine LW.q rfl (Qt.move rfl) ?_
            refine LW.q rfl (Qt.extract rfl rfl) ?_
            refine LW.q rfl (Qt.extract rfl rfl) ?_
            refine LW.q rfl (Qt.assign rfl) ?_
            refine LW.q rfl (Qt.assign rfl) ?_
            refine LW.done ?_
            refine T.seq ?_
            refine T.region ?_
            refine LW.q rfl (Qt.move rfl) ?_
            refine LW.q rfl (Qt.move rfl) ?_
            refine LW.q rfl (Qt.add rfl rfl (wr64 (by omega) (by omega))) ?_
            refine LW.e rfl (Ef.call (Dk.readF B bd D4 (n + 10) _ (by omega) (by omega) (by rw [i3]; simp)) Tryd.func43 rfl rfl rfl ?_)
            rintro _ _ ⟨g6, c6, rfl, rfl⟩
            try simp only [List.cons_append, List.nil_append]
            rw [r2]
            refine LW.q rfl (Qt.move rfl) ?_
            refine LW.q rfl (Qt.extract rfl rfl) ?_
            refine LW.q rfl (Qt.extract rfl rfl) ?_
            refine LW.q rfl (Qt.assign rfl) ?_
            refine LW.q rfl (Qt.assign rfl) ?_
            refine LW.done ?_
            refine T.seq ?_
            refine T.region ?_
            refine LW.q rfl (Qt.move rfl) ?_
            refine LW.q rfl (Qt.str (secW (logB 0 0 []) n) (by kernel_rfl) (by kernel_rfl) rfl (fun w ho => (RdV.rB (p := some ⟨g5, 0, none⟩) (c := c5) (length_secW _ _) (fun _ => ⟨_, rfl⟩)).reads w (ho.map Sub.any))) ?_
            refine LW.q rfl (Qt.move rfl) ?_
            refine LW.q rfl (Qt.str (secW (logB 0 0 []) n) (by kernel_rfl) (by kernel_rfl) rfl (fun w ho => (RdV.rB (p := some ⟨g6, 0, none⟩) (c := c6) (length_secW _ _) (fun _ => ⟨_, rfl⟩)).reads w (ho.map Sub.any))) ?_
            refine LW.q rfl (Qt.neqS rfl rfl) ?_
            refine LW.done ?_
            first | refine T.condF rfl ?_ | refine T.condPF rfl ((by simp)) ?_ | refine T.condBF rfl ((by simp)) ?_
            refine T.skip ?_
            refine T.region ?_
            refine LW.q rfl (Qt.move rfl) ?_
            refine LW.q rfl (Qt.add rfl rfl (wr64 (by omega) (by omega))) ?_
            refine LW.q rfl (Qt.assign rfl) ?_
            refine LW.done ?_
            refine ⟨_, ?_, _, ⟨_, n + 1, by omega, rfl, (updS rfl (updS rfl (updS rfl rfl))), rfl⟩, Sub.any⟩
            first | omega | (simp; omega)
          · skip
            refine T.exit ?_
            refine T.seq ?_
            refine T.region ?_
            refine LW.q rfl (Qt.move rfl) ?_
            refine LW.e rfl (Ef.call (Dk.pendingF B bd D4) Tryd.func44 rfl rfl rfl ?_)
            rintro _ _ ⟨rfl, rfl⟩
            try simp only [List.cons_append, List.nil_append]
            rw [i3]
            refine LW.q rfl (Qt.eql rfl rfl) ?_
            refine LW.q rfl (Qt.move rfl) ?_
            first | refine LW.gT (t := 135) rfl rfl ?_ | refine LW.gT (t := 135) rfl (decide_eq_true (by omega)) ?_ | refine LW.gT (t := 135) rfl (by omega) ?_
            refine LW.q rfl (Qt.move rfl) ?_
            refine LW.e rfl (Ef.call (Wl.durable B ga bd (mkW 0 10 [] (logB 0 0 []).length) (by simp only [mkW]; omega)) Tryd.func41 rfl rfl rfl ?_)
            rintro _ _ ⟨rfl, rfl⟩
            try simp only [List.cons_append, List.nil_append]
            refine LW.q rfl (Qt.move rfl) ?_
            refine LW.e rfl (Ef.call (Wl.endOf B ga bd (mkW 0 10 [] (logB 0 0 []).length) (by simp only [mkW]; omega)) Tryd.func39 rfl rfl rfl ?_)
            rintro _ _ ⟨rfl, rfl⟩
            try simp only [List.cons_append, List.nil_append]
            refine LW.q rfl (Qt.eql rfl rfl) ?_
            refine LW.q rfl (Qt.pick rfl rfl) ?_
            refine LW.q rfl (Qt.assign rfl) ?_
            refine LW.done ?_
            refine T.ret ?_
            exact ⟨.inl rfl, _, _, res [_] rfl ⟨rvT rfl, trivial⟩, ⟨by simp [outV, mkW], rfl⟩, Sub.any⟩
end Go.Proofs.YtjjhbpjbngdlnaaDoor
