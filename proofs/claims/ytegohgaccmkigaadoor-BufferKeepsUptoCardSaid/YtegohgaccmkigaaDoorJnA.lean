/- bytealg.MakeNoZero, copies of nothing, slices with three bounds; bytes.Join without a separator. Conditions: sizes; that what is handed in can be read. -/
import Derived.Test.YtegohgaccmkigaaDoorPgI
import Derived.Lib.MakeNoZero
import Derived.Laws.Externs
set_option linter.unusedSimpArgs false
set_option linter.unusedVariables false
namespace Go.Proofs.YtegohgaccmkigaaDoor
open Go.RowKit
section
variable {P : Program} {B : Base} {n : Nat} {S l r : List Assn} {f : Fr} {K : Value → List Assn → Prop} {Φ : Post}
variable {d : Option Tmp} {ty : TypeId} {pos : String} {af : Array Edge} {gd : Option (Nat × Bool)}

theorem Ef.makeNoZero {g : FuncId} {fn : Func} {x : Operand} {ats : Array TypeId} {t e : TypeId} {ps : Array TypeId} {i : Int} (m : Nat) (hf : P.funcs[g]? = some fn) (hname : (fn.name == "runtime.NumGoroutine") = false) (hb : fn.body.isNone = true) (hn : Extern.findNext fn = none)
    (he : Extern.find fn = some (Extern.BytealgMakeNoZero.makeNoZero ps #[t])) (ht : P.underlying t = some (.slice e)) (hx : ev n f x = some (.int .i64 i)) (hi : i = (m : Int)) (hm : m ≤ 281474976710656) (hm2 : m ≤ maxLen)
    (h : ∀ g c xs, m ≤ c → K (.slice (some ⟨g, 0, none⟩) m c) (row (.slice (some ⟨g, 0, none⟩) m c) e 1 m xs :: l)) : Ef P B n ⟨d, .call ⟨.value (.func g), #[x], ats⟩, ty, pos, af, gd⟩ f l K := ⟨fun w next Q ho hk => by
  subst hi
  obtain ⟨cs, hrun, hle, hmax⟩ := Lib.run_makeNoZero (P := P) w ps t e ht m hm
  have hav : (#[x] : Array Operand).map (evu n f) = #[.int .i64 m] := by simp [evu_eq hx]
  unfold Oper.wp execOp
  rw [eval_act']
  have he : ((do let c ← resolve (evu n f) ⟨.value (.func g), #[x], ats⟩ ty; invoke c.target c.args) : Sem Next).run P w = .ok (.value (.slice (some ⟨w.heap.size, 0, none⟩) m cs.size)) (w.drew.drew.alloc (.cells cs e)) := by
    simp only [resolve, hav]
    have hg : evu n f (.func g) = .func (.func g) #[] #[] := rfl
    have hc := run_callFunc_extern (P := P) hf hname hb hn he #[.int .i64 m] w
    rw [hrun] at hc
    simp [hg, Deferred.ofValue, invoke, hc]
  rw [he]
  have ho2 : Own B w.drew.drew l := ⟨ho.os, ho.tape, ho.output, ho.ro, ho.has⟩
  have ho3 := ho2.alloc cs.toList e
  have e2 : cs.toList.toArray = cs := by simp
  rw [e2] at ho3
  refine hk _ _ _ (h w.heap.size cs.size (cs.toList.take m) hle) (ho3.map fun _ ⟨h1, h2, dd, a1, a2, hA, H⟩ => ⟨h1, h2, dd, a1, a2, ?_, H⟩)
  refine ⟨by simp; omega, .inr ⟨w.heap.size, cs.size, cs, rfl, ?_, hle, hmax hm2, by simp, by rw [Nat.mul_one]⟩⟩
  have : h1 w.heap.size = some (.cells cs.toList.toArray e (0, 0)) := by rw [e2]; exact hA
  rwa [e2] at this⟩
theorem Qt.slice3 {t e sz : Nat} {x y z : Operand} {p : Option Addr} {m c : Nat} {k k2 : IntKind} {i j : Int} (hi mx : Nat) (ht : sliceB P t e sz = true) (hx : ev n f x = some (.slice p m c)) (hy : ev n f y = some (.int k i)) (hz : ev n f z = some (.int k2 j)) (h1 : i = (hi : Int)) (h2 : j = (mx : Int)) (h3 : hi ≤ mx) (h4 : mx ≤ c) :
    Qt P B n S ⟨d, .slice t x none (some y) (some z), ty, pos, af, gd⟩ f (.slice p hi mx) := ⟨fun w _ => by
  subst h1; subst h2
  obtain ⟨hu, hs⟩ := sliceB_spec ht
  obtain ⟨i, hi', his⟩ := info_of_size hs
  subst his
  have h0 : (if mx = 0 then p else p.map (·.add (0 * i.size))) = p := by
    split
    · rfl
    · cases p <;> simp [Addr.add]
  have h5 : hi ≤ c := by omega
  have : (Instr.sliceAt t (.slice p m c) none (some (.int k hi)) (some (.int k2 mx))).run P w = .ok (.slice p hi mx) w := by
    simp [Instr.sliceAt, run_underlying hu, Instr.slice, Instr.sliceBounds, Instr.sliceBound, asIntOf, sizeOf, typeInfo, hi', h3, h4, h5]
    intro _
    cases p <;> simp [Addr.add]
  simp [execOp, evu_eq hx, evu_eq hy, evu_eq hz, this]⟩
/-- A slice from a bound on, its place told. -/
theorem Qt.slice_sn1 {t e sz : Nat} {x y : Operand} {p : Option Addr} {m c : Nat} {k : IntKind} {i : Int} (lo : Nat) (p' : Option Addr) (m' c' : Nat) (ht : sliceB P t e sz = true) (hx : ev n f x = some (.slice p m c)) (hy : ev n f y = some (.int k i)) (hi1 : i = (lo : Int)) (h1 : lo ≤ m) (hp : offA p c lo sz = p') (hm : m - lo = m') (hc : c - lo = c') :
    Qt P B n S ⟨d, .slice t x (some y) none none, ty, pos, af, gd⟩ f (.slice p' m' c') := by
  subst hp; subst hm; subst hc
  exact Qt.slice_snn lo ht hx hy hi1 h1
theorem Ef.copy0 {dT sT e : Nat} {x y : Operand} {a b : Option Addr} {dLen dCap sLen sCap : Nat} {ty2 : TypeId} (hk : sliceB P dT e 1 = true) (hx : ev n f x = some (.slice b dLen dCap)) (hy : ev n f y = some (.slice a sLen sCap)) (hm : Nat.min sLen dLen = 0)
    (h : K (.int .i64 0) l) : Ef P B n ⟨d, .call ⟨.builtin .copy, #[x, y], #[dT, sT]⟩, ty2, pos, af, gd⟩ f l K := ⟨fun w next Q ho hk2 => by
  obtain ⟨hu, hs⟩ := sliceB_spec hk
  have hr := run_copy_none (P := P) w dT sT ty2 e b a dLen dCap sLen sCap hu hs hm
  unfold Oper.wp execOp
  simp only [eval_act', resolve, invoke, builtin, Sem.run_bind, Sem.run_pure, Result.andThen_ok, List.map_toArray, List.map_cons, List.map_nil, evu_eq hx, evu_eq hy, hr]
  exact hk2 _ _ _ h ho⟩
end
theorem flat_take (bs : List (List UInt8)) (k : Nat) (h : k < bs.length) : (bs.take (k + 1)).flatten = (bs.take k).flatten ++ bs[k] := by
  rw [List.take_succ_eq_append_getElem h, List.flatten_append, List.flatten_cons, List.flatten_nil, List.append_nil]
theorem flat_le (bs : List (List UInt8)) (k : Nat) : (bs.take k).flatten.length ≤ bs.flatten.length := by
  have : bs.flatten = (bs.take k).flatten ++ (bs.drop k).flatten := by rw [← List.flatten_append, List.take_append_drop]
  rw [this, List.length_append]; omega
theorem splice_take (C : List Value) (o : Nat) (x : List Value) (h : o + x.length ≤ C.length) : (splice C o x).take (o + x.length) = C.take o ++ x := by
  unfold splice
  rw [← List.append_assoc, List.take_left' (by simp; omega)]

set_option maxHeartbeats 4000000 in
set_option maxRecDepth 100000 in
theorem Jn.join (B : Base) (S : List Assn) (a : Option Addr) (c : Nat) (bs : List (List UInt8)) (hv : PartsV B S (.slice a bs.length c) bs) (hc : bs.length ≤ c) (hn : bs.length < 2 ^ 32) (N : Nat) (hN : bs.flatten.length = N) (hN2 : N ≤ 2 ^ 40) : Fn Tryd.prog B 45 #[.slice a bs.length c, .slice none 0 0] S (fun u l => ∃ p c c', u = .slice p N c' ∧ (0 < N → ∃ g, p = some ⟨g, 0, none⟩) ∧ l = rB (.slice p N c) N bs.flatten :: S) := by
  obtain ⟨vs, h1, h2, h3⟩ := hv
  have hz0 := flat_le bs
  refine Fn.enter2 92 Tryd.func45 rfl rfl (Nat.le_of_ble_eq_true rfl) (fun F => ?_)
  try simp only [List.cons_append, List.nil_append]
  refine T.seq ?_
  refine T.region ?_
  refine LW.q rfl (Qt.assign rfl) ?_
  refine LW.done ?_
  refine T.seq ?_
  refine T.seq ?_
  refine T.region ?_
  refine LW.q rfl (Qt.move rfl) ?_
  refine LW.q rfl (Qt.len (e := 41) (sz := 1) (by kernel_rfl) rfl) ?_
  refine LW.q rfl (Qt.eql rfl rfl) ?_
  refine LW.done ?_
  refine T.condP rfl (fun h0 => ?_) (fun h0 => ?_)
  · skip
    obtain rfl : bs = [] := List.eq_nil_of_length_eq_zero (by omega)
    obtain rfl : N = 0 := by rw [← hN]; rfl
    refine T.seq ?_
    refine T.region ?_
    refine LW.e rfl (Ef.empty Cd.elemB ?_)
    rintro g15
    try simp only [List.cons_append, List.nil_append]
    rw [show (row (.slice (some ⟨g15, 0, none⟩) 0 0) 5 1 0 [] : Assn) = rB (.slice (some ⟨g15, 0, none⟩) 0 0) 0 [] from rfl]
    refine LW.q rfl (Qt.assign rfl) ?_
    refine LW.done ?_
    refine T.ret ?_
    exact ⟨.inl rfl, _, _, res [_] rfl ⟨rvT rfl, trivial⟩, ⟨some ⟨g15, 0, none⟩, 0, 0, rfl, fun h => by omega, by rw [List.flatten_nil]⟩, Sub.any⟩
  · skip
    obtain ⟨g, o, rfl, hcell⟩ := h1.at (by omega)
    obtain ⟨pa, pc, hp0⟩ := (h3 0 (by omega) (by omega)).form (m := bs[0].length) (by simp)
    have r0 := h3 0 (by omega) (by omega)
    rw [hp0] at r0
    refine T.skip ?_
    refine T.seq ?_
    refine T.seq ?_
    refine T.region ?_
    refine LW.q rfl (Qt.move rfl) ?_
    refine LW.q rfl (Qt.len (e := 41) (sz := 1) (by kernel_rfl) rfl) ?_
    refine LW.q rfl (Qt.eql rfl rfl) ?_
    refine LW.done ?_
    refine T.condP rfl (fun hone => ?_) (fun hone => ?_)
    · skip
      obtain ⟨x, rfl⟩ : ∃ x, bs = [x] := by match bs, hone with | [x], _ => exact ⟨x, rfl⟩ | [], e => simp at e | _ :: _ :: _, e => simp at e; omega
      simp only [List.getElem_cons_zero] at r0
      obtain rfl : x.length = N := by rw [← hN]; simp
      have hx1 : [x].flatten = x := by simp
      refine T.seq ?_
      refine T.region ?_
      refine LW.q rfl (Qt.move rfl) ?_
      refine LW.q rfl (Qt.index 0 (e := 41) (sz := 1) (by kernel_rfl) rfl rfl rfl (by omega)) ?_
      refine LW.q rfl (Qt.loadW (v := .slice pa x.length pc) (by kernel_rfl) rfl (fun w ho => by rw [hcell 0 (by simp at h2; omega) w ho.drop, hp0]; rfl)) ?_
      refine LW.e rfl (Ef.appendNil Cd.elemB rfl rfl (SrcOf.rd (m := x.length) (r0.mono (fun w ho => ho.drop)) (by kernel_rfl) (by simp) one_bytesV) (by unfold maxLen; omega) (by omega) ?_)
      rintro p1 c1 hp1
      try simp only [List.cons_append, List.nil_append]
      refine LW.q rfl (Qt.assign rfl) ?_
      refine LW.done ?_
      refine T.ret ?_
      exact ⟨.inl rfl, _, _, res [_] rfl ⟨rvT rfl, trivial⟩, ⟨p1, c1, c1, rfl, hp1, by rw [hx1]⟩, Sub.any⟩
    · skip
      refine T.skip ?_
      refine T.seq ?_
      refine T.region ?_
      refine LW.q rfl (Qt.assign rfl) ?_
      refine LW.done ?_
      refine T.seq ?_
      refine T.seq ?_
      refine T.region ?_
      refine LW.q rfl (Qt.move rfl) ?_
      refine LW.q rfl (Qt.len (e := 5) (sz := 1) (by kernel_rfl) rfl) ?_
      refine LW.q rfl (Qt.gtr rfl rfl) ?_
      refine LW.done ?_
      first | refine T.condF rfl ?_ | refine T.condPF rfl (by omega) ?_ | refine T.condBF rfl (by omega) ?_
      refine T.skip ?_
      refine T.seq ?_
      refine T.seq ?_
      refine T.region ?_
      refine LW.q rfl (Qt.move rfl) ?_
      refine LW.q rfl (Qt.len (e := 41) (sz := 1) (by kernel_rfl) rfl) ?_
      refine LW.q rfl (Qt.move rfl) ?_
      refine LW.done ?_
      refine T.block ?_
      refine T.loop (fun mz fz lz => ∃ (f0 : Fr) (k m : Nat), (k ≤ bs.length ∧ m = (bs.take k).flatten.length) ∧ mz = bs.length - k ∧ fz = (upd (upd (upd (upd (upd (upd f0 0 (.slice (some ⟨g, o, none⟩) bs.length c)) 1 (.slice none 0 0)) 5 (.int .i64 m)) 42 (.slice (some ⟨g, o, none⟩) bs.length c)) 43 (.int .i64 bs.length)) 44 (.int .i64 k)) ∧ lz = S ++ F) ?_ ?_
      · refine ⟨_, _, ⟨_, 0, 0, ⟨Nat.zero_le _, rfl⟩, rfl, (updS rfl (updS rfl (updS rfl (updS rfl (updS rfl (updS rfl rfl)))))), rfl⟩, Sub.any⟩
      · skip
        rintro mz fz lz ⟨f0, k, m, ⟨hk, hm⟩, hmz, rfl, rfl⟩
        subst mz
        try simp only [List.cons_append, List.nil_append]
        refine T.seq ?_
        refine T.region ?_
        refine LW.q rfl (Qt.lss rfl rfl) ?_
        refine LW.done ?_
        refine T.seq ?_
        refine T.condP rfl (fun hlt => ?_) (fun hlt => ?_)
        · skip
          obtain ⟨x, hx⟩ : ∃ x, bs[k]'(by omega) = x := ⟨_, rfl⟩
          have hft := flat_take bs k (by omega)
          rw [hx] at hft
          have hfl := flat_le bs (k + 1)
          rw [hft, List.length_append, ← hm] at hfl
          have rk := h3 k (by omega) (by omega)
          rw [hx] at rk
          obtain ⟨pk, ck, hpk⟩ := rk.form (m := x.length) (by simp)
          refine T.skip ?_
          refine T.seq ?_
          refine T.block ?_
          refine T.seq ?_
          refine T.region ?_
          refine LW.q rfl (Qt.index _ (e := 41) (sz := 1) (by kernel_rfl) rfl rfl rfl (by omega)) ?_
          refine LW.q rfl (Qt.loadW (v := .slice pk x.length ck) (by kernel_rfl) rfl (fun w ho => by rw [hcell k (by omega) w ho.drop, hpk])) ?_
          refine LW.q rfl (Qt.assign rfl) ?_
          refine LW.done ?_
          refine T.seq ?_
          refine T.seq ?_
          refine T.region ?_
          refine LW.q rfl (Qt.move rfl) ?_
          refine LW.q rfl (Qt.len (e := 5) (sz := 1) (by kernel_rfl) rfl) ?_
          refine LW.q rfl (Qt.move rfl) ?_
          refine LW.q rfl (Qt.sub rfl rfl (wr64 (by omega) (by omega))) ?_
          refine LW.q rfl (Qt.gtr rfl rfl) ?_
          refine LW.done ?_
          first | refine T.condF rfl ?_ | refine T.condPF rfl (by omega) ?_ | refine T.condBF rfl (by omega) ?_
          refine T.skip ?_
          refine T.region ?_
          refine LW.q rfl (Qt.move rfl) ?_
          refine LW.q rfl (Qt.move rfl) ?_
          refine LW.q rfl (Qt.len (e := 5) (sz := 1) (by kernel_rfl) rfl) ?_
          refine LW.q rfl (Qt.add rfl rfl (wr64 (by omega) (by omega))) ?_
          refine LW.q rfl (Qt.assign rfl) ?_
          refine LW.done ?_
          refine T.region ?_
          refine LW.q rfl (Qt.add rfl rfl (wr64 (by omega) (by omega))) ?_
          refine LW.q rfl (Qt.move rfl) ?_
          refine LW.done ?_
          refine ⟨_, ?_, _, ⟨_, k + 1, m + x.length, ⟨by omega, by rw [hft, List.length_append, hm]⟩, rfl, (updS rfl (updS rfl (updS rfl (updS rfl (updS rfl (updS rfl rfl)))))), rfl⟩, Sub.any⟩
          first | omega | (simp; omega)
        · skip
          obtain rfl : k = bs.length := by omega
          obtain rfl : m = N := by rw [hm, List.take_length, hN]
          have hfl1 := flat_le bs 1
          have hft0 := flat_take bs 0 (by omega)
          simp only [List.take_zero, List.flatten_nil, List.nil_append, Nat.zero_add] at hft0
          rw [hft0] at hfl1
          by_cases hz : bs[0].length = 0
          · skip
            refine T.exit ?_
            refine T.seq ?_
            refine T.region ?_
            refine LW.q rfl (Qt.move rfl) ?_
            refine LW.e rfl (Ef.makeNoZero m Tryd.func57 (by kernel_rfl) (by kernel_rfl) (by kernel_rfl) (ps := #[3]) (t := 41) (by kernel_rfl) Tryd.underlying41 rfl rfl (by omega) (by unfold maxLen; omega) ?_)
            intro g60 c60 xs60 hc60
            refine LW.own (fun w ho => ?_)
            have hxl : xs60.length = m := by have := (ho.row_owns).1; simpa using this
            clear ho
            refine LW.q rfl (Qt.move rfl) ?_
            refine LW.q rfl (Qt.move rfl) ?_
            refine LW.q rfl (Qt.slice3 m m (e := 5) (sz := 1) (by kernel_rfl) rfl rfl rfl rfl rfl (by omega) (by omega)) ?_
            refine LW.q rfl (Qt.assign rfl) ?_
            refine LW.done ?_
            refine T.seq ?_
            refine T.region ?_
            refine LW.q rfl (Qt.move rfl) ?_
            refine LW.q rfl (Qt.move rfl) ?_
            refine LW.q rfl (Qt.index 0 (e := 41) (sz := 1) (by kernel_rfl) rfl rfl rfl (by omega)) ?_
            refine LW.q rfl (Qt.loadW (v := .slice pa bs[0].length pc) (by kernel_rfl) rfl (fun w ho => by rw [hcell 0 (by omega) w ho.tl.drop, hp0])) ?_
            refine LW.e rfl (Ef.copy0 (e := 5) (by kernel_rfl) rfl rfl (by simp [hz]) ?_)
            try simp only [List.cons_append, List.nil_append]
            refine LW.q rfl (Qt.assign rfl) ?_
            refine LW.done ?_
            refine T.seq ?_
            refine T.seq ?_
            refine T.region ?_
            refine LW.q rfl (Qt.move rfl) ?_
            refine LW.q rfl (Qt.slice_sn1 1 (some ⟨g, o + 1 * 1, none⟩) (bs.length - 1) (c - 1) (e := 41) (sz := 1) (by kernel_rfl) rfl rfl rfl (by omega) (offA_some (by omega)) rfl rfl) ?_
            refine LW.q rfl (Qt.len (e := 41) (sz := 1) (by kernel_rfl) rfl) ?_
            refine LW.q rfl (Qt.move rfl) ?_
            refine LW.done ?_
            refine T.block ?_
            refine T.loop (fun mz fz lz => ∃ (f0 : Fr) (k bp : Nat) (C : List Value), (k + 1 ≤ bs.length ∧ bp = (bs.take (k + 1)).flatten.length ∧ C.length = m ∧ C.take bp = bytesV (bs.take (k + 1)).flatten) ∧ mz = bs.length - 1 - k ∧ fz = (upd (upd (upd (upd (upd (upd f0 1 (.slice none 0 0)) 8 (.slice (some ⟨g60, 0, none⟩) m m)) 9 (.int .i64 bp)) 70 (.slice (some ⟨g, o + 1 * 1, none⟩) (bs.length - 1) (c - 1))) 71 (.int .i64 (bs.length - 1 : Nat))) 72 (.int .i64 k)) ∧ lz = row (.slice (some ⟨g60, 0, none⟩) m c60) 5 1 m C :: (S ++ F)) ?_ ?_
            · refine ⟨_, _, ⟨_, 0, 0, xs60, ⟨by omega, by rw [hft0, hz], hxl, by rw [hft0, List.eq_nil_of_length_eq_zero hz]; rfl⟩, rfl, (updS rfl (updS rfl (updS rfl (updS rfl (updS rfl (updS rfl rfl)))))), rfl⟩, Sub.any⟩
            · skip
              rintro mz fz lz ⟨f0, k, bp, C, ⟨hk, hbp, hC, hpre⟩, hmz, rfl, rfl⟩
              subst mz
              try simp only [List.cons_append, List.nil_append]
              have hbn := flat_le bs (k + 1)
              refine T.seq ?_
              refine T.region ?_
              refine LW.q rfl (Qt.lss rfl rfl) ?_
              refine LW.done ?_
              refine T.seq ?_
              refine T.condP rfl (fun hlt => ?_) (fun hlt => ?_)
              · skip
                obtain ⟨x, hx⟩ : ∃ x, bs[k + 1]'(by omega) = x := ⟨_, rfl⟩
                have hft := flat_take bs (k + 1) (by omega)
                rw [hx] at hft
                have hfl := flat_le bs (k + 1 + 1)
                rw [hft, List.length_append, ← hbp] at hfl
                have rk := h3 (k + 1) (by omega) (by omega)
                rw [hx] at rk
                obtain ⟨pk, ck, hpk⟩ := rk.form (m := x.length) (by simp)
                rw [hpk] at rk
                refine T.skip ?_
                refine T.seq ?_
                refine T.block ?_
                refine T.seq ?_
                refine T.region ?_
                refine LW.q rfl (Qt.index _ (e := 41) (sz := 1) (by kernel_rfl) rfl rfl rfl (by omega)) ?_
                refine LW.q rfl (Qt.loadW (v := .slice pk x.length ck) (by kernel_rfl) rfl (fun w ho => by have := hcell (k + 1) (by omega) w ho.tl.drop; rw [show o + 1 * 1 + k * 1 = o + (k + 1) * 1 by omega, this, hpk])) ?_
                refine LW.q rfl (Qt.assign rfl) ?_
                refine LW.done ?_
                refine T.seq ?_
                refine T.region ?_
                refine LW.q rfl (Qt.move rfl) ?_
                refine LW.q rfl (Qt.move rfl) ?_
                refine LW.q rfl (Qt.move rfl) ?_
                refine LW.q rfl (Qt.slice_snn bp (e := 5) (sz := 1) (by kernel_rfl) rfl rfl rfl (by omega)) ?_
                refine LW.q rfl (Qt.move rfl) ?_
                refine LW.e rfl (Ef.copy0 (e := 5) (by kernel_rfl) rfl rfl (by simp) ?_)
                try simp only [List.cons_append, List.nil_append]
                refine LW.q rfl (Qt.add rfl rfl (wr64 (by omega) (by omega))) ?_
                refine LW.q rfl (Qt.assign rfl) ?_
                refine LW.done ?_
                refine T.region ?_
                refine LW.q rfl (Qt.move rfl) ?_
                refine LW.q rfl (Qt.move rfl) ?_
                refine LW.q rfl (Qt.move rfl) ?_
                refine LW.q rfl (Qt.slice_snn bp (e := 5) (sz := 1) (by kernel_rfl) rfl rfl (by omega) (by omega)) ?_
                refine LW.q rfl (Qt.move rfl) ?_
                by_cases hx0 : x.length = 0
                · skip
                  refine LW.e rfl (Ef.copy0 (e := 5) (by kernel_rfl) rfl rfl (by simp [hx0]) ?_)
                  try simp only [List.cons_append, List.nil_append]
                  refine LW.q rfl (Qt.add rfl rfl (wr64 (by omega) (by omega))) ?_
                  refine LW.q rfl (Qt.assign rfl) ?_
                  refine LW.done ?_
                  refine T.region ?_
                  refine LW.q rfl (Qt.add rfl rfl (wr64 (by omega) (by omega))) ?_
                  refine LW.q rfl (Qt.move rfl) ?_
                  refine LW.done ?_
                  obtain rfl : x = [] := List.eq_nil_of_length_eq_zero hx0
                  refine ⟨_, ?_, _, ⟨_, k + 1, bp, C, ⟨by omega, by rw [hft, hbp]; simp, hC, by rw [hft, hpre]; simp⟩, rfl, (updS rfl (updS rfl (updS rfl (updS rfl (updS rfl (updS rfl rfl)))))), rfl⟩, Sub.any⟩
                  first | omega | (simp; omega)
                · skip
                  rw [offA_some (c := m) (lo := bp) (by omega)]
                  refine LW.e rfl (Ef.copy (e := 5) (C := C) (cs := bytesV x) (src := bytesV x) (by kernel_rfl) rfl rfl (rk.mono (fun w ho => ho.tl.drop)) x.length (Nat.min_eq_left (by omega)).symm (by omega) (by rw [List.take_of_length_le (by simp)]) (by simp) one_bytesV (by omega) ?_)
                  try simp only [List.cons_append, List.nil_append]
                  simp only [Nat.zero_add, Nat.mul_one]
                  refine LW.q rfl (Qt.add rfl rfl (wr64 (by omega) (by omega))) ?_
                  refine LW.q rfl (Qt.assign rfl) ?_
                  refine LW.done ?_
                  refine T.region ?_
                  refine LW.q rfl (Qt.add rfl rfl (wr64 (by omega) (by omega))) ?_
                  refine LW.q rfl (Qt.move rfl) ?_
                  refine LW.done ?_
                  refine ⟨_, ?_, _, ⟨_, k + 1, bp + x.length, splice C bp (bytesV x), ⟨by omega, by rw [hft, List.length_append, hbp], by rw [length_splice _ _ _ (by simp; omega)]; exact hC, by have := splice_take C bp (bytesV x) (by simp; omega); rw [length_bytesV] at this; rw [this, hft, hpre, bytesV_append]⟩, rfl, (updS rfl (updS rfl (updS rfl (updS rfl (updS rfl (updS rfl rfl)))))), rfl⟩, Sub.any⟩
                  first | omega | (simp; omega)
              · skip
                have hke : k + 1 = bs.length := by omega
                rw [hke, List.take_length] at hbp hpre
                obtain rfl : C = bytesV bs.flatten := by rw [← hpre, List.take_of_length_le (by omega)]
                refine T.exit ?_
                refine T.seq ?_
                refine T.region ?_
                refine LW.q rfl (Qt.move rfl) ?_
                refine LW.q rfl (Qt.assign rfl) ?_
                refine LW.done ?_
                refine T.ret ?_
                exact ⟨.inl rfl, _, _, res [_] rfl ⟨rvT rfl, trivial⟩, ⟨some ⟨g60, 0, none⟩, c60, m, rfl, fun _ => ⟨_, rfl⟩, rfl⟩, Sub.any⟩
          · skip
            refine T.exit ?_
            refine T.seq ?_
            refine T.region ?_
            refine LW.q rfl (Qt.move rfl) ?_
            refine LW.e rfl (Ef.makeNoZero m Tryd.func57 (by kernel_rfl) (by kernel_rfl) (by kernel_rfl) (ps := #[3]) (t := 41) (by kernel_rfl) Tryd.underlying41 rfl rfl (by omega) (by unfold maxLen; omega) ?_)
            intro g60 c60 xs60 hc60
            refine LW.own (fun w ho => ?_)
            have hxl : xs60.length = m := by have := (ho.row_owns).1; simpa using this
            clear ho
            refine LW.q rfl (Qt.move rfl) ?_
            refine LW.q rfl (Qt.move rfl) ?_
            refine LW.q rfl (Qt.slice3 m m (e := 5) (sz := 1) (by kernel_rfl) rfl rfl rfl rfl rfl (by omega) (by omega)) ?_
            refine LW.q rfl (Qt.assign rfl) ?_
            refine LW.done ?_
            refine T.seq ?_
            refine T.region ?_
            refine LW.q rfl (Qt.move rfl) ?_
            refine LW.q rfl (Qt.move rfl) ?_
            refine LW.q rfl (Qt.index 0 (e := 41) (sz := 1) (by kernel_rfl) rfl rfl rfl (by omega)) ?_
            refine LW.q rfl (Qt.loadW (v := .slice pa bs[0].length pc) (by kernel_rfl) rfl (fun w ho => by rw [hcell 0 (by omega) w ho.tl.drop, hp0])) ?_
            refine LW.e rfl (Ef.copy (e := 5) (C := xs60) (cs := bytesV bs[0]) (src := bytesV bs[0]) (by kernel_rfl) rfl rfl (r0.mono (fun w ho => ho.tl.drop)) bs[0].length (Nat.min_eq_left (by omega)).symm (by omega) (by rw [List.take_of_length_le (by simp)]) (by simp) one_bytesV (by omega) ?_)
            try simp only [List.cons_append, List.nil_append]
            refine LW.q rfl (Qt.assign rfl) ?_
            refine LW.done ?_
            refine T.seq ?_
            refine T.seq ?_
            refine T.region ?_
            refine LW.q rfl (Qt.move rfl) ?_
            refine LW.q rfl (Qt.slice_sn1 1 (some ⟨g, o + 1 * 1, none⟩) (bs.length - 1) (c - 1) (e := 41) (sz := 1) (by kernel_rfl) rfl rfl rfl (by omega) (offA_some (by omega)) rfl rfl) ?_
            refine LW.q rfl (Qt.len (e := 41) (sz := 1) (by kernel_rfl) rfl) ?_
            refine LW.q rfl (Qt.move rfl) ?_
            refine LW.done ?_
            refine T.block ?_
            refine T.loop (fun mz fz lz => ∃ (f0 : Fr) (k bp : Nat) (C : List Value), (k + 1 ≤ bs.length ∧ bp = (bs.take (k + 1)).flatten.length ∧ C.length = m ∧ C.take bp = bytesV (bs.take (k + 1)).flatten) ∧ mz = bs.length - 1 - k ∧ fz = (upd (upd (upd (upd (upd (upd f0 1 (.slice none 0 0)) 8 (.slice (some ⟨g60, 0, none⟩) m m)) 9 (.int .i64 bp)) 70 (.slice (some ⟨g, o + 1 * 1, none⟩) (bs.length - 1) (c - 1))) 71 (.int .i64 (bs.length - 1 : Nat))) 72 (.int .i64 k)) ∧ lz = row (.slice (some ⟨g60, 0, none⟩) m c60) 5 1 m C :: (S ++ F)) ?_ ?_
            · refine ⟨_, _, ⟨_, 0, bs[0].length, splice xs60 0 (bytesV bs[0]), ⟨by omega, by rw [hft0], by rw [length_splice _ _ _ (by simp; omega)]; exact hxl, by have := splice_take xs60 0 (bytesV bs[0]) (by simp; omega); rw [length_bytesV, Nat.zero_add] at this; rw [this, hft0]; simp⟩, rfl, (updS rfl (updS rfl (updS rfl (updS rfl (updS rfl (updS rfl rfl)))))), rfl⟩, Sub.any⟩
            · skip
              rintro mz fz lz ⟨f0, k, bp, C, ⟨hk, hbp, hC, hpre⟩, hmz, rfl, rfl⟩
              subst mz
              try simp only [List.cons_append, List.nil_append]
              have hbn := flat_le bs (k + 1)
              refine T.seq ?_
              refine T.region ?_
              refine LW.q rfl (Qt.lss rfl rfl) ?_
              refine LW.done ?_
              refine T.seq ?_
              refine T.condP rfl (fun hlt => ?_) (fun hlt => ?_)
              · skip
                obtain ⟨x, hx⟩ : ∃ x, bs[k + 1]'(by omega) = x := ⟨_, rfl⟩
                have hft := flat_take bs (k + 1) (by omega)
                rw [hx] at hft
                have hfl := flat_le bs (k + 1 + 1)
                rw [hft, List.length_append, ← hbp] at hfl
                have rk := h3 (k + 1) (by omega) (by omega)
                rw [hx] at rk
                obtain ⟨pk, ck, hpk⟩ := rk.form (m := x.length) (by simp)
                rw [hpk] at rk
                refine T.skip ?_
                refine T.seq ?_
                refine T.block ?_
                refine T.seq ?_
                refine T.region ?_
                refine LW.q rfl (Qt.index _ (e := 41) (sz := 1) (by kernel_rfl) rfl rfl rfl (by omega)) ?_
                refine LW.q rfl (Qt.loadW (v := .slice pk x.length ck) (by kernel_rfl) rfl (fun w ho => by have := hcell (k + 1) (by omega) w ho.tl.drop; rw [show o + 1 * 1 + k * 1 = o + (k + 1) * 1 by omega, this, hpk])) ?_
                refine LW.q rfl (Qt.assign rfl) ?_
                refine LW.done ?_
                refine T.seq ?_
                refine T.region ?_
                refine LW.q rfl (Qt.move rfl) ?_
                refine LW.q rfl (Qt.move rfl) ?_
                refine LW.q rfl (Qt.move rfl) ?_
                refine LW.q rfl (Qt.slice_snn bp (e := 5) (sz := 1) (by kernel_rfl) rfl rfl rfl (by omega)) ?_
                refine LW.q rfl (Qt.move rfl) ?_
                refine LW.e rfl (Ef.copy0 (e := 5) (by kernel_rfl) rfl rfl (by simp) ?_)
                try simp only [List.cons_append, List.nil_append]
                refine LW.q rfl (Qt.add rfl rfl (wr64 (by omega) (by omega))) ?_
                refine LW.q rfl (Qt.assign rfl) ?_
                refine LW.done ?_
                refine T.region ?_
                refine LW.q rfl (Qt.move rfl) ?_
                refine LW.q rfl (Qt.move rfl) ?_
                refine LW.q rfl (Qt.move rfl) ?_
                refine LW.q rfl (Qt.slice_snn bp (e := 5) (sz := 1) (by kernel_rfl) rfl rfl (by omega) (by omega)) ?_
                refine LW.q rfl (Qt.move rfl) ?_
                by_cases hx0 : x.length = 0
                · skip
                  refine LW.e rfl (Ef.copy0 (e := 5) (by kernel_rfl) rfl rfl (by simp [hx0]) ?_)
                  try simp only [List.cons_append, List.nil_append]
                  refine LW.q rfl (Qt.add rfl rfl (wr64 (by omega) (by omega))) ?_
                  refine LW.q rfl (Qt.assign rfl) ?_
                  refine LW.done ?_
                  refine T.region ?_
                  refine LW.q rfl (Qt.add rfl rfl (wr64 (by omega) (by omega))) ?_
                  refine LW.q rfl (Qt.move rfl) ?_
                  refine LW.done ?_
                  obtain rfl : x = [] := List.eq_nil_of_length_eq_zero hx0
                  refine ⟨_, ?_, _, ⟨_, k + 1, bp, C, ⟨by omega, by rw [hft, hbp]; simp, hC, by rw [hft, hpre]; simp⟩, rfl, (updS rfl (updS rfl (updS rfl (updS rfl (updS rfl (updS rfl rfl)))))), rfl⟩, Sub.any⟩
                  first | omega | (simp; omega)
                · skip
                  rw [offA_some (c := m) (lo := bp) (by omega)]
                  refine LW.e rfl (Ef.copy (e := 5) (C := C) (cs := bytesV x) (src := bytesV x) (by kernel_rfl) rfl rfl (rk.mono (fun w ho => ho.tl.drop)) x.length (Nat.min_eq_left (by omega)).symm (by omega) (by rw [List.take_of_length_le (by simp)]) (by simp) one_bytesV (by omega) ?_)
                  try simp only [List.cons_append, List.nil_append]
                  simp only [Nat.zero_add, Nat.mul_one]
                  refine LW.q rfl (Qt.add rfl rfl (wr64 (by omega) (by omega))) ?_
                  refine LW.q rfl (Qt.assign rfl) ?_
                  refine LW.done ?_
                  refine T.region ?_
                  refine LW.q rfl (Qt.add rfl rfl (wr64 (by omega) (by omega))) ?_
                  refine LW.q rfl (Qt.move rfl) ?_
                  refine LW.done ?_
                  refine ⟨_, ?_, _, ⟨_, k + 1, bp + x.length, splice C bp (bytesV x), ⟨by omega, by rw [hft, List.length_append, hbp], by rw [length_splice _ _ _ (by simp; omega)]; exact hC, by have := splice_take C bp (bytesV x) (by simp; omega); rw [length_bytesV] at this; rw [this, hft, hpre, bytesV_append]⟩, rfl, (updS rfl (updS rfl (updS rfl (updS rfl (updS rfl (updS rfl rfl)))))), rfl⟩, Sub.any⟩
                  first | omega | (simp; omega)
              · skip
                have hke : k + 1 = bs.length := by omega
                rw [hke, List.take_length] at hbp hpre
                obtain rfl : C = bytesV bs.flatten := by rw [← hpre, List.take_of_length_le (by omega)]
                refine T.exit ?_
                refine T.seq ?_
                refine T.region ?_
                refine LW.q rfl (Qt.move rfl) ?_
                refine LW.q rfl (Qt.assign rfl) ?_
                refine LW.done ?_
                refine T.ret ?_
                exact ⟨.inl rfl, _, _, res [_] rfl ⟨rvT rfl, trivial⟩, ⟨some ⟨g60, 0, none⟩, c60, m, rfl, fun _ => ⟨_, rfl⟩, rfl⟩, Sub.any⟩
end Go.Proofs.YtegohgaccmkigaaDoor
