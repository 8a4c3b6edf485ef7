/- The law RitreeAll of annalslaw10 holds: for all arguments of bulk at most 1048576 the call returns true and the arguments read as before. Condition: the bound of the second form. -/
import Derived.Test.YtefognjcognknaaZRiBase14
/- The laws of ritree: RitreeEmpties. Conditions: that the periods can be read; sizes. -/
set_option linter.unusedSimpArgs false
set_option linter.unusedVariables false
namespace Go.Proofs.Ytefognjcognknaa
open Go.RowKit
theorem look_snoc (k j : Int) (v : Nat × Nat) : ∀ M : List PE, lookM (M ++ [(k, v)]) j = if (lookM M j).isSome then lookM M j else if k = j then some v else none
  | [] => by simp [lookM]
  | p :: M => by
    show lookM (p :: (M ++ [(k, v)])) j = _
    unfold lookM
    split
    · simp
    · exact look_snoc k j v M
theorem look_cut (k j : Int) : ∀ M : List PE, lookM (cutM M k) j = if k = j then none else lookM M j
  | [] => by simp [cutM, lookM]
  | p :: M => by
    have ih := look_cut k j M
    unfold cutM at ih ⊢
    rw [List.filter_cons]
    by_cases h : p.1 = k
    · simp only [h, ne_eq, not_true_eq_false, decide_false, Bool.false_eq_true, if_false]
      rw [ih]
      by_cases h2 : k = j
      · simp [h2]
      · simp [lookM, h, h2]
    · simp only [ne_eq, h, not_false_eq_true, decide_true, if_true]
      unfold lookM
      split
      · rename_i h2
        have : ¬ (k = j) := fun e => h (by rw [h2, e])
        simp [this]
      · exact ih
/-- Which numbers a tree has. -/
def HasZ (M : List PE) (lo hi : Nat) (xs : List (Int × Int)) : Prop := (∀ e ∈ M, (lo : Int) ≤ e.1 ∧ e.1 < hi) ∧ ∀ (j : Nat) (h : j < xs.length), lo ≤ j → j < hi → ((lookM M j).isSome = true ↔ okP xs[j].1 xs[j].2)
theorem look_none {M : List PE} {k : Int} (h : ∀ e ∈ M, e.1 ≠ k) : lookM M k = none := by
  cases hl : lookM M k with
  | none => rfl
  | some v => exact absurd rfl (h _ (lookL_mem hl))
theorem HasZ.add {M : List PE} {i : Nat} {xs : List (Int × Int)} (h : HasZ M 0 i xs) (hi : i < xs.length) : HasZ (addM M i xs[i].1 xs[i].2) 0 (i + 1) xs ∧ addCode M i xs[i].1 xs[i].2 = codeP xs[i].1 xs[i].2 := by
  have hn : lookM M (i : Int) = none := look_none fun e he k => by have := h.1 e he; omega
  unfold addM addCode codeP
  rw [hn]
  by_cases hok : okP xs[i].1 xs[i].2
  · rw [if_pos ⟨hok, rfl⟩, if_pos hok, if_pos hok]
    refine ⟨⟨fun e he => ?_, fun j hj _ hlt => ?_⟩, rfl⟩
    · rcases List.mem_append.1 he with he | he
      · have := h.1 e he; omega
      · rw [List.mem_singleton.1 he]; simp only; omega
    · rw [look_snoc]
      by_cases e : j = i
      · subst e; rw [hn]; simp; exact hok
      · have := h.2 j hj (by omega) (by omega)
        have e2 : ¬ ((i : Int) = (j : Int)) := by omega
        rw [if_neg e2]
        split
        · exact this
        · rename_i hs
          rw [← this]
          simp [hs]
  · rw [if_neg (fun k => hok k.1), if_neg hok, if_neg hok]
    refine ⟨⟨fun e he => by have := h.1 e he; omega, fun j hj _ hlt => ?_⟩, rfl⟩
    by_cases e : j = i
    · subst e; rw [hn]; simp [hok]
    · exact h.2 j hj (by omega) (by omega)
theorem HasZ.cut {M : List PE} {i : Nat} {xs : List (Int × Int)} (h : HasZ M i xs.length xs) (hi : i < xs.length) : HasZ (cutM M i) (i + 1) xs.length xs ∧ (cutCode M i = 0 ↔ codeP xs[i].1 xs[i].2 = 0) := by
  have h1 := h.2 i hi (Nat.le_refl _) hi
  refine ⟨⟨fun e he => ?_, fun j hj h2 h3 => ?_⟩, ?_⟩
  · obtain ⟨h4, h5⟩ := List.mem_filter.1 he
    have := h.1 e h4
    have h6 : e.1 ≠ (i : Int) := by simpa using h5
    omega
  · rw [look_cut, if_neg (by omega)]
    exact h.2 j hj (by omega) h3
  · unfold cutCode codeP
    by_cases hok : okP xs[i].1 xs[i].2
    · rw [if_pos hok, if_pos (h1.2 hok)]
    · rw [if_neg hok, if_neg (fun k => hok (h1.1 k))]; simp
theorem HasZ.done {M : List PE} {n : Nat} {xs : List (Int × Int)} (h : HasZ M n n xs) : M = [] := by
  rcases M with _ | ⟨e, M⟩
  · rfl
  · have := h.1 e (List.mem_cons_self ..); omega
set_option maxHeartbeats 8000000 in
set_option maxRecDepth 100000 in
theorem Ri.empties (B : Base) (v : Value) (xs : List (Int × Int)) (f t : Int) (hv : RoLPd B v xs) (hn : xs.length < 2 ^ 30) : Fn Try.prog B 11 #[v, pdV f t] [] (fun u l => u = .bool true ∧ l = []) := by
 obtain ⟨sa, scap, rfl, hsc⟩ := hv
 refine Fn.enter2 83 Try.func11 rfl rfl (Nat.le_of_ble_eq_true rfl) (fun F => ?_)
 try simp only [List.cons_append, List.nil_append]
 refine T.seq ?_
 refine T.region ?_
 refine LW.e rfl (Ef.box [_, _] rfl rfl ?_)
 intro g3
 refine LW.q rfl (Qt.assign rfl) ?_
 refine LW.done ?_
 refine T.seq ?_
 refine T.seq ?_
 refine T.region ?_
 refine LW.e rfl (Ef.call (Ri.awake B) Try.func26 rfl rfl rfl ?_)
 rintro _ _ ⟨rfl, rfl⟩
 try simp only [List.cons_append, List.nil_append]
 first | refine LW.q rfl (Qt.notP rfl) ?_ | refine LW.q rfl (Qt.notB rfl) ?_
 refine LW.done ?_
 first | refine T.condF rfl ?_ | refine T.condPF rfl (by omega) ?_ | refine T.condBF rfl (by omega) ?_
 refine T.skip ?_
 refine T.seq ?_
 refine T.region ?_
 refine LW.e rfl (Ef.call (Ri.new B) Try.func32 rfl rfl rfl ?_)
 rintro _ _ ⟨g, gl, gu, gm, rfl, rfl⟩
 try simp only [List.cons_append, List.nil_append]
 refine LW.q rfl (Qt.assign rfl) ?_
 refine LW.done ?_
 refine T.seq ?_
 refine T.seq ?_
 refine T.region ?_
 refine LW.q rfl (Qt.assign rfl) ?_
 refine LW.done ?_
 refine T.block ?_
 refine T.loop (fun mz fz lz => ∃ (f0 : Fr) (ps : Nat) (M : List PE) (L U : List KV) (N : Nat), (ps ≤ 2 ∧ M = [] ∧ RiOk M L U N ∧ N ≤ ps * xs.length) ∧ mz = 2 - ps ∧ fz = (upd (upd (upd (upd f0 0 (.slice sa xs.length scap)) 3 (pV g3)) 5 (pV g)) 6 (.int .i64 ps)) ∧ lz = blk g3 [.int .i64 f, .int .i64 t] 57 :: (riL g gl gu gm M L U ++ F)) ?_ ?_
 · refine ⟨_, _, ⟨_, 0, [], [], [], 0, ⟨by omega, rfl, RiOk.nil, by omega⟩, rfl, (updS rfl (updS rfl (updS rfl (updS rfl rfl)))), rfl⟩, Sub.any⟩
 ·
  rintro mz fz lz ⟨f0, ps, M, L, U, N, ⟨hps, hM0, hr0, hN0⟩, hmz, rfl, rfl⟩
  subst mz
  try simp only [List.cons_append, List.nil_append]
  refine T.seq ?_
  refine T.seq ?_
  refine T.region ?_
  refine LW.q rfl (Qt.move rfl) ?_
  refine LW.q rfl (Qt.lss rfl rfl) ?_
  refine LW.done ?_
  refine T.condP rfl (fun hlt => ?_) (fun hlt => ?_)
  ·
   have hps2 : ps * xs.length ≤ 1 * xs.length := Nat.mul_le_mul_right _ (by omega)
   refine T.skip ?_
   refine T.seq ?_
   refine T.block ?_
   refine T.seq ?_
   refine T.seq ?_
   refine T.region ?_
   refine LW.q rfl (Qt.move rfl) ?_
   refine LW.q rfl (Qt.len (e := 57) (sz := 2) (by kernel_rfl) rfl) ?_
   refine LW.q rfl (Qt.move rfl) ?_
   refine LW.done ?_
   refine T.block ?_
   refine T.loop (fun mz fz lz => ∃ (f0 : Fr) (i : Nat) (M : List PE) (L U : List KV) (N : Nat), (i ≤ xs.length ∧ HasZ M 0 i xs ∧ RiOk M L U N ∧ N ≤ ps * xs.length + i) ∧ mz = xs.length - i ∧ fz = (upd (upd (upd (upd (upd (upd (upd f0 0 (.slice sa xs.length scap)) 3 (pV g3)) 5 (pV g)) 6 (.int .i64 ps)) 22 (.slice sa xs.length scap)) 23 (.int .i64 xs.length)) 24 (.int .i64 i)) ∧ lz = blk g3 [.int .i64 f, .int .i64 t] 57 :: (riL g gl gu gm M L U ++ F)) ?_ ?_
   · refine ⟨_, _, ⟨_, 0, M, L, U, N, ⟨Nat.zero_le _, by subst hM0; exact ⟨(fun _ h => nomatch h), fun j _ _ h => by omega⟩, hr0, by omega⟩, rfl, (updS rfl (updS rfl (updS rfl (updS rfl (updS rfl (updS rfl (updS rfl rfl))))))), rfl⟩, Sub.any⟩
   ·
    rintro mz fz lz ⟨f0, i, M, L, U, N, ⟨hi, hH, hr, hN⟩, hmz, rfl, rfl⟩
    subst mz
    try simp only [List.cons_append, List.nil_append]
    refine T.seq ?_
    refine T.region ?_
    refine LW.q rfl (Qt.lss rfl rfl) ?_
    refine LW.done ?_
    refine T.seq ?_
    refine T.condP rfl (fun hil => ?_) (fun hil => ?_)
    ·
     have hil' : i < xs.length := by omega
     obtain ⟨kb, ko, C, rfl, hro, hC⟩ := hsc.resolve_left (by intro e; rw [e] at hil'; simp at hil')
     have hrd := hC i hil'
     obtain ⟨hH2, hcode⟩ := hH.add hil'
     refine T.skip ?_
     refine T.seq ?_
     refine T.block ?_
     refine T.seq ?_
     refine T.region ?_
     refine LW.q rfl (Qt.move rfl) ?_
     refine LW.q rfl (Qt.index i (e := 57) (sz := 2) (by kernel_rfl) rfl rfl rfl hil') ?_
     refine LW.q rfl (Qt.loadAgg [_, _] (by kernel_rfl) rfl hrd) ?_
     refine LW.e rfl (Ef.alloc [.int .i64 0, .int .i64 0] (by unfold zeroB; kernel_rfl) ?_)
     intro g8
     refine LW.q rfl (Qt.assign rfl) ?_
     refine LW.e0 rfl (Ef.store [_, _] (by kernel_rfl) rfl rfl rfl rfl (by simp) ?_)
     try simp only [splice, List.length_cons, List.length_nil, List.drop_succ_cons, List.cons_append, List.take_succ_cons, List.take_zero, List.drop_zero, List.nil_append, List.append_nil]
     refine LW.done ?_
     refine T.seq ?_
     refine T.region ?_
     refine LW.q rfl (Qt.move rfl) ?_
     refine LW.q rfl (Qt.move rfl) ?_
     first | refine LW.q rfl (Qt.loadAgg [_, _] (by kernel_rfl) rfl ⟨rfl, rfl, trivial⟩) ?_ | refine LW.q rfl (Qt.loadAgg [_, _] (by kernel_rfl) rfl (by exact rdl_flat _ _ _ (by intros; rfl) _ (by omega))) ?_
     refine LW.e rfl (Ef.call (Ri.addA B g gl gu gm M L U N hr (by omega) i xs[i].1 xs[i].2 (by unfold minI; omega) (by omega)) Try.func33 rfl rfl rfl ?_)
     rintro _ _ ⟨L', U', hr', rfl, rfl⟩
     try simp only [List.cons_append, List.nil_append]
     rw [hcode]
     refine LW.q rfl (Qt.assign rfl) ?_
     refine LW.done ?_
     refine T.seq ?_
     refine T.region ?_
     refine LW.q rfl (Qt.move rfl) ?_
     refine LW.q rfl (Qt.eql rfl rfl) ?_
     first | refine LW.q rfl (Qt.loadAgg [_, _] (by kernel_rfl) rfl ⟨rfl, rfl, trivial⟩) ?_ | refine LW.q rfl (Qt.loadAgg [_, _] (by kernel_rfl) rfl (by exact rdl_flat _ _ _ (by intros; rfl) _ (by omega))) ?_
     refine LW.e rfl (Ef.call (Ri.checkA B xs[i].1 xs[i].2) Try.func36 rfl rfl rfl ?_)
     rintro _ _ ⟨rfl, rfl⟩
     try simp only [List.cons_append, List.nil_append]
     refine LW.q rfl (Qt.eql rfl rfl) ?_
     refine LW.q rfl (Qt.neqB (by kernel_rfl) rfl rfl) ?_
     refine LW.done ?_
     first | refine T.condF rfl ?_ | refine T.condPF rfl ((by simp)) ?_ | refine T.condBF rfl ((by simp)) ?_
     refine T.skip ?_
     refine T.region ?_
     refine LW.q rfl (Qt.add rfl rfl (wr64 (by omega) (by omega))) ?_
     refine LW.q rfl (Qt.move rfl) ?_
     refine LW.done ?_
     refine ⟨_, ?_, _, ⟨_, i + 1, addM M i xs[i].1 xs[i].2, L', U', N + 1, ⟨by omega, hH2, hr', by omega⟩, rfl, (updS rfl (updS rfl (updS rfl (updS rfl (updS rfl (updS rfl (updS rfl rfl))))))), rfl⟩, Sub.any⟩
     first | omega | (simp; omega)
    ·
     obtain rfl : i = xs.length := by omega
     have hH3 : HasZ M 0 xs.length xs := hH
     refine T.exit ?_
     refine T.seq ?_
     refine T.seq ?_
     refine T.region ?_
     refine LW.q rfl (Qt.move rfl) ?_
     refine LW.q rfl (Qt.len (e := 57) (sz := 2) (by kernel_rfl) rfl) ?_
     refine LW.q rfl (Qt.move rfl) ?_
     refine LW.done ?_
     refine T.block ?_
     refine T.loop (fun mz fz lz => ∃ (f0 : Fr) (i : Nat) (M : List PE) (L U : List KV), (i ≤ xs.length ∧ HasZ M i xs.length xs ∧ RiOk M L U N) ∧ mz = xs.length - i ∧ fz = (upd (upd (upd (upd (upd (upd (upd f0 0 (.slice sa xs.length scap)) 3 (pV g3)) 5 (pV g)) 6 (.int .i64 ps)) 40 (.slice sa xs.length scap)) 41 (.int .i64 xs.length)) 42 (.int .i64 i)) ∧ lz = blk g3 [.int .i64 f, .int .i64 t] 57 :: (riL g gl gu gm M L U ++ F)) ?_ ?_
     · refine ⟨_, _, ⟨_, 0, M, L, U, ⟨Nat.zero_le _, hH, hr⟩, rfl, (updS rfl (updS rfl (updS rfl (updS rfl (updS rfl (updS rfl (updS rfl rfl))))))), rfl⟩, Sub.any⟩
     ·
      rintro mz fz lz ⟨f0, i, M, L, U, ⟨hi, hH, hr⟩, hmz, rfl, rfl⟩
      subst mz
      try simp only [List.cons_append, List.nil_append]
      refine T.seq ?_
      refine T.region ?_
      refine LW.q rfl (Qt.lss rfl rfl) ?_
      refine LW.done ?_
      refine T.seq ?_
      refine T.condP rfl (fun hil => ?_) (fun hil => ?_)
      ·
       have hil' : i < xs.length := by omega
       obtain ⟨kb, ko, C, rfl, hro, hC⟩ := hsc.resolve_left (by intro e; rw [e] at hil'; simp at hil')
       have hrd := hC i hil'
       obtain ⟨hH2, hcode⟩ := hH.cut hil'
       refine T.skip ?_
       refine T.seq ?_
       refine T.block ?_
       refine T.seq ?_
       refine T.region ?_
       refine LW.q rfl (Qt.move rfl) ?_
       refine LW.q rfl (Qt.index i (e := 57) (sz := 2) (by kernel_rfl) rfl rfl rfl hil') ?_
       refine LW.q rfl (Qt.loadAgg [_, _] (by kernel_rfl) rfl hrd) ?_
       refine LW.e rfl (Ef.alloc [.int .i64 0, .int .i64 0] (by unfold zeroB; kernel_rfl) ?_)
       intro g11
       refine LW.q rfl (Qt.assign rfl) ?_
       refine LW.e0 rfl (Ef.store [_, _] (by kernel_rfl) rfl rfl rfl rfl (by simp) ?_)
       try simp only [splice, List.length_cons, List.length_nil, List.drop_succ_cons, List.cons_append, List.take_succ_cons, List.take_zero, List.drop_zero, List.nil_append, List.append_nil]
       refine LW.done ?_
       refine T.seq ?_
       refine T.region ?_
       refine LW.q rfl (Qt.move rfl) ?_
       refine LW.q rfl (Qt.move rfl) ?_
       refine LW.e rfl (Ef.call (Ri.cutA B g gl gu gm M L U N hr (by omega) i) Try.func40 rfl rfl rfl ?_)
       rintro _ _ ⟨L', U', hr', rfl, rfl⟩
       try simp only [List.cons_append, List.nil_append]
       refine LW.q rfl (Qt.assign rfl) ?_
       refine LW.done ?_
       refine T.seq ?_
       refine T.region ?_
       refine LW.q rfl (Qt.move rfl) ?_
       refine LW.q rfl (Qt.eql rfl rfl) ?_
       first | refine LW.q rfl (Qt.loadAgg [_, _] (by kernel_rfl) rfl ⟨rfl, rfl, trivial⟩) ?_ | refine LW.q rfl (Qt.loadAgg [_, _] (by kernel_rfl) rfl (by exact rdl_flat _ _ _ (by intros; rfl) _ (by omega))) ?_
       refine LW.e rfl (Ef.call (Ri.checkA B xs[i].1 xs[i].2) Try.func36 rfl rfl rfl ?_)
       rintro _ _ ⟨rfl, rfl⟩
       try simp only [List.cons_append, List.nil_append]
       refine LW.q rfl (Qt.eql rfl rfl) ?_
       refine LW.q rfl (Qt.neqB (by kernel_rfl) rfl rfl) ?_
       refine LW.done ?_
       first | refine T.condF rfl ?_ | refine T.condPF rfl ((by simp [hcode])) ?_ | refine T.condBF rfl ((by simp [hcode])) ?_
       refine T.skip ?_
       refine T.region ?_
       refine LW.q rfl (Qt.add rfl rfl (wr64 (by omega) (by omega))) ?_
       refine LW.q rfl (Qt.move rfl) ?_
       refine LW.done ?_
       refine ⟨_, ?_, _, ⟨_, i + 1, cutM M i, L', U', ⟨by omega, hH2, hr'⟩, rfl, (updS rfl (updS rfl (updS rfl (updS rfl (updS rfl (updS rfl (updS rfl rfl))))))), rfl⟩, Sub.any⟩
       first | omega | (simp; omega)
      ·
       obtain rfl : i = xs.length := by omega
       obtain rfl := hH.done
       refine T.exit ?_
       refine T.seq ?_
       refine T.region ?_
       refine LW.q rfl (Qt.move rfl) ?_
       first | refine LW.q rfl (Qt.loadAgg [_, _] (by kernel_rfl) rfl ⟨rfl, rfl, trivial⟩) ?_ | refine LW.q rfl (Qt.loadAgg [_, _] (by kernel_rfl) rfl (by exact rdl_flat _ _ _ (by intros; rfl) _ (by omega))) ?_
       refine LW.e rfl (Ef.call (Ri.overA B g gl gu gm [] L U N hr (by omega) f t) Try.func34 rfl rfl rfl ?_)
       rintro _ _ ⟨p, c, rfl, rfl⟩
       try simp only [List.cons_append, List.nil_append]
       rw [show ovI [] f t = [] by unfold ovI ovZ; split <;> rfl]
       refine LW.q rfl (Qt.move rfl) ?_
       refine LW.q rfl (Qt.extr rfl rfl) ?_
       refine LW.q rfl (Qt.extr rfl rfl) ?_
       refine LW.q rfl (Qt.assign rfl) ?_
       refine LW.q rfl (Qt.assign rfl) ?_
       refine LW.done ?_
       refine T.seq ?_
       refine T.region ?_
       refine LW.q rfl (Qt.move rfl) ?_
       refine LW.e rfl (Ef.call (Ri.len B g gl gu gm [] L U) Try.func35 rfl rfl rfl ?_)
       rintro _ _ ⟨rfl, rfl⟩
       try simp only [List.cons_append, List.nil_append]
       refine LW.q rfl (Qt.neq rfl rfl) ?_
       refine LW.q rfl (Qt.move rfl) ?_
       first | refine LW.gF (t := 66) rfl rfl ?_ | refine LW.gF (t := 66) rfl (decide_eq_false (by omega)) ?_ | refine LW.gF (t := 66) rfl (by omega) ?_
       refine LW.q rfl (Qt.move rfl) ?_
       refine LW.q rfl (Qt.len (e := 2) (sz := 1) (by kernel_rfl) rfl) ?_
       refine LW.q rfl (Qt.neq rfl rfl) ?_
       refine LW.q rfl (Qt.pick rfl rfl) ?_
       refine LW.q rfl (Qt.move rfl) ?_
       first | refine LW.gF (t := 71) rfl rfl ?_ | refine LW.gF (t := 71) rfl (decide_eq_false (by omega)) ?_ | refine LW.gF (t := 71) rfl (by omega) ?_
       refine LW.q rfl (Qt.move rfl) ?_
       refine LW.q rfl (Qt.eql rfl rfl) ?_
       first | refine LW.q rfl (Qt.loadAgg [_, _] (by kernel_rfl) rfl ⟨rfl, rfl, trivial⟩) ?_ | refine LW.q rfl (Qt.loadAgg [_, _] (by kernel_rfl) rfl (by exact rdl_flat _ _ _ (by intros; rfl) _ (by omega))) ?_
       refine LW.e rfl (Ef.call (Ri.checkA B f t) Try.func36 rfl rfl rfl ?_)
       rintro _ _ ⟨rfl, rfl⟩
       try simp only [List.cons_append, List.nil_append]
       refine LW.q rfl (Qt.eql rfl rfl) ?_
       refine LW.q rfl (Qt.neqB (by kernel_rfl) rfl rfl) ?_
       refine LW.q rfl (Qt.pick rfl rfl) ?_
       refine LW.done ?_
       first | refine T.condF rfl ?_ | refine T.condPF rfl ((by simp)) ?_ | refine T.condBF rfl ((by simp)) ?_
       refine T.skip ?_
       refine T.region ?_
       refine LW.q rfl (Qt.move rfl) ?_
       refine LW.q rfl (Qt.add rfl rfl (wr64 (by omega) (by omega))) ?_
       refine LW.q rfl (Qt.assign rfl) ?_
       refine LW.done ?_
       refine ⟨_, ?_, _, ⟨_, ps + 1, [], L, U, N, ⟨by omega, rfl, hr, by rw [Nat.add_mul]; omega⟩, rfl, (updS rfl (updS rfl (updS rfl (updS rfl rfl)))), rfl⟩, Sub.any⟩
       first | omega | (simp; omega)
  ·
   subst hM0
   refine T.exit ?_
   refine T.seq ?_
   refine T.region ?_
   refine LW.q rfl (Qt.move rfl) ?_
   refine LW.q rfl (Qt.build [(0, 1), (1, 1)] [.int .i64 0, .int .i64 0] [_, _] [(0, _), (1, _)] (by kernel_rfl) (by unfold zeroB; kernel_rfl) rfl rfl) ?_
   refine LW.e rfl (Ef.call (Ri.addA B g gl gu gm [] L U N hr0 (by have : ps * xs.length ≤ 2 * xs.length := Nat.mul_le_mul_right _ hps; omega) 0 0 1 (by decide) (by decide)) Try.func33 rfl rfl rfl ?_)
   rintro _ _ ⟨L', U', hr', rfl, rfl⟩
   try simp only [List.cons_append, List.nil_append]
   refine LW.q rfl (Qt.eql rfl rfl) ?_
   refine LW.q rfl (Qt.assign rfl) ?_
   refine LW.done ?_
   refine T.ret ?_
   exact ⟨.inl rfl, _, _, res [_] rfl ⟨rvT rfl, trivial⟩, ⟨rfl, rfl⟩, Sub.any⟩
end Go.Proofs.Ytefognjcognknaa

/- The laws of ritree: RitreeBackbone. Conditions: none. -/
set_option linter.unusedSimpArgs false
set_option linter.unusedVariables false
namespace Go.Proofs.Ytefognjcognknaa
open Go.RowKit
theorem ov_ok {a b c d : Int} (h1 : okP a b) (h2 : okP c d) : okP (Max.max a c) (Min.min b d) ↔ (a < d ∧ c < b) := by
  obtain ⟨_, _, _⟩ := h1
  obtain ⟨_, _, _⟩ := h2
  constructor
  · rintro ⟨x, y, z⟩; omega
  · rintro ⟨x, y⟩; exact ⟨by omega, by omega, by omega⟩
set_option maxHeartbeats 2000000 in
theorem Ri.pover (B : Base) (a b c d : Int) : Fn Try.prog B 38 #[pdV a b, pdV c d] [] (fun u l => ∃ x y, u = .tuple #[pdV x y, .bool (decide (okP a b ∧ okP c d ∧ a < d ∧ c < b))] ∧ l = []) := by
 refine Fn.enter2 33 Try.func38 rfl rfl (Nat.le_of_ble_eq_true rfl) (fun F => ?_)
 try simp only [List.cons_append, List.nil_append]
 refine T.seq ?_
 refine T.region ?_
 refine LW.e rfl (Ef.box [_, _] rfl rfl ?_)
 intro g2
 refine LW.e rfl (Ef.box [_, _] rfl rfl ?_)
 intro g3
 refine LW.e rfl (Ef.alloc [.int .i64 0, .int .i64 0] (by unfold zeroB; kernel_rfl) ?_)
 intro g4
 refine LW.q rfl (Qt.assign rfl) ?_
 refine LW.done ?_
 refine T.seq ?_
 refine T.region ?_
 refine LW.q rfl (Qt.fieldAddr0 (by kernel_rfl) rfl) ?_
 first | refine LW.q rfl (Qt.load (by kernel_rfl) rfl rfl) ?_ | refine LW.q rfl (Qt.load (by kernel_rfl) rfl (map_at _ _ _ (by omega))) ?_ | refine LW.q rfl (Qt.load (by kernel_rfl) rfl (flat_cell0 _ _ _ (by intros; rfl) _ (by omega) (by rfl))) ?_ | refine LW.q rfl (Qt.load (by kernel_rfl) rfl (flat_cell _ _ _ (by intros; rfl) _ _ (by omega) (by rfl))) ?_ | refine LW.q rfl (Qt.load (by kernel_rfl) rfl (bytes_at _ _ (by omega))) ?_
 refine LW.q rfl (Qt.fieldAddr0 (by kernel_rfl) rfl) ?_
 first | refine LW.q rfl (Qt.load (by kernel_rfl) rfl rfl) ?_ | refine LW.q rfl (Qt.load (by kernel_rfl) rfl (map_at _ _ _ (by omega))) ?_ | refine LW.q rfl (Qt.load (by kernel_rfl) rfl (flat_cell0 _ _ _ (by intros; rfl) _ (by omega) (by rfl))) ?_ | refine LW.q rfl (Qt.load (by kernel_rfl) rfl (flat_cell _ _ _ (by intros; rfl) _ _ (by omega) (by rfl))) ?_ | refine LW.q rfl (Qt.load (by kernel_rfl) rfl (bytes_at _ _ (by omega))) ?_
 refine LW.q rfl (Qt.max rfl rfl) ?_
 refine LW.q rfl (Qt.fieldAddr (off := 1) (by kernel_rfl) rfl) ?_
 first | refine LW.q rfl (Qt.load (by kernel_rfl) rfl rfl) ?_ | refine LW.q rfl (Qt.load (by kernel_rfl) rfl (map_at _ _ _ (by omega))) ?_ | refine LW.q rfl (Qt.load (by kernel_rfl) rfl (flat_cell0 _ _ _ (by intros; rfl) _ (by omega) (by rfl))) ?_ | refine LW.q rfl (Qt.load (by kernel_rfl) rfl (flat_cell _ _ _ (by intros; rfl) _ _ (by omega) (by rfl))) ?_ | refine LW.q rfl (Qt.load (by kernel_rfl) rfl (bytes_at _ _ (by omega))) ?_
 refine LW.q rfl (Qt.fieldAddr (off := 1) (by kernel_rfl) rfl) ?_
 first | refine LW.q rfl (Qt.load (by kernel_rfl) rfl rfl) ?_ | refine LW.q rfl (Qt.load (by kernel_rfl) rfl (map_at _ _ _ (by omega))) ?_ | refine LW.q rfl (Qt.load (by kernel_rfl) rfl (flat_cell0 _ _ _ (by intros; rfl) _ (by omega) (by rfl))) ?_ | refine LW.q rfl (Qt.load (by kernel_rfl) rfl (flat_cell _ _ _ (by intros; rfl) _ _ (by omega) (by rfl))) ?_ | refine LW.q rfl (Qt.load (by kernel_rfl) rfl (bytes_at _ _ (by omega))) ?_
 refine LW.q rfl (Qt.min rfl rfl) ?_
 refine LW.q rfl (Qt.build [(0, 1), (1, 1)] [.int .i64 0, .int .i64 0] [_, _] [(0, _), (1, _)] (by kernel_rfl) (by unfold zeroB; kernel_rfl) rfl rfl) ?_
 refine LW.e rfl (Ef.alloc [.int .i64 0, .int .i64 0] (by unfold zeroB; kernel_rfl) ?_)
 intro g6
 refine LW.e0 rfl (Ef.store [_, _] (by kernel_rfl) rfl rfl rfl rfl (by simp) ?_)
 try simp only [splice, List.length_cons, List.length_nil, List.drop_succ_cons, List.cons_append, List.take_succ_cons, List.take_zero, List.drop_zero, List.nil_append, List.append_nil]
 refine LW.done ?_
 refine T.seq ?_
 refine T.seq ?_
 refine T.region ?_
 first | refine LW.q rfl (Qt.loadAgg [_, _] (by kernel_rfl) rfl ⟨rfl, rfl, trivial⟩) ?_ | refine LW.q rfl (Qt.loadAgg [_, _] (by kernel_rfl) rfl (by exact rdl_flat _ _ _ (by intros; rfl) _ (by omega))) ?_
 by_cases h1 : okP a b
 ·
  refine LW.e rfl (Ef.call (Ri.check B a b h1) Try.func36 rfl rfl rfl ?_)
  rintro _ _ ⟨rfl, rfl⟩
  try simp only [List.cons_append, List.nil_append]
  refine LW.q rfl (Qt.neq rfl rfl) ?_
  refine LW.q rfl (Qt.move rfl) ?_
  first | refine LW.gF (t := 21) rfl rfl ?_ | refine LW.gF (t := 21) rfl (decide_eq_false (by omega)) ?_ | refine LW.gF (t := 21) rfl (by omega) ?_
  first | refine LW.q rfl (Qt.loadAgg [_, _] (by kernel_rfl) rfl ⟨rfl, rfl, trivial⟩) ?_ | refine LW.q rfl (Qt.loadAgg [_, _] (by kernel_rfl) rfl (by exact rdl_flat _ _ _ (by intros; rfl) _ (by omega))) ?_
  by_cases h2 : okP c d
  ·
   refine LW.e rfl (Ef.call (Ri.check B c d h2) Try.func36 rfl rfl rfl ?_)
   rintro _ _ ⟨rfl, rfl⟩
   try simp only [List.cons_append, List.nil_append]
   refine LW.q rfl (Qt.neq rfl rfl) ?_
   refine LW.q rfl (Qt.pick rfl rfl) ?_
   refine LW.q rfl (Qt.move rfl) ?_
   first | refine LW.gF (t := 26) rfl rfl ?_ | refine LW.gF (t := 26) rfl (decide_eq_false (by omega)) ?_ | refine LW.gF (t := 26) rfl (by omega) ?_
   first | refine LW.q rfl (Qt.loadAgg [_, _] (by kernel_rfl) rfl ⟨rfl, rfl, trivial⟩) ?_ | refine LW.q rfl (Qt.loadAgg [_, _] (by kernel_rfl) rfl (by exact rdl_flat _ _ _ (by intros; rfl) _ (by omega))) ?_
   by_cases h3 : okP (Max.max a c) (Min.min b d)
   ·
    have hd : decide (okP a b ∧ okP c d ∧ a < d ∧ c < b) = true := decide_eq_true ⟨h1, h2, (ov_ok h1 h2).1 h3⟩
    refine LW.e rfl (Ef.call (Ri.check B (Max.max a c) (Min.min b d) h3) Try.func36 rfl rfl rfl ?_)
    rintro _ _ ⟨rfl, rfl⟩
    try simp only [List.cons_append, List.nil_append]
    refine LW.q rfl (Qt.neq rfl rfl) ?_
    refine LW.q rfl (Qt.pick rfl rfl) ?_
    refine LW.done ?_
    first | refine T.condF rfl ?_ | refine T.condPF rfl (by omega) ?_ | refine T.condBF rfl (by omega) ?_
    refine T.skip ?_
    refine T.seq ?_
    refine T.region ?_
    first | refine LW.q rfl (Qt.loadAgg [_, _] (by kernel_rfl) rfl ⟨rfl, rfl, trivial⟩) ?_ | refine LW.q rfl (Qt.loadAgg [_, _] (by kernel_rfl) rfl (by exact rdl_flat _ _ _ (by intros; rfl) _ (by omega))) ?_
    refine LW.e0 rfl (Ef.store [_, _] (by kernel_rfl) rfl rfl rfl rfl (by simp) ?_)
    try simp only [splice, List.length_cons, List.length_nil, List.drop_succ_cons, List.cons_append, List.take_succ_cons, List.take_zero, List.drop_zero, List.nil_append, List.append_nil]
    refine LW.q rfl (Qt.assign rfl) ?_
    refine LW.done ?_
    refine T.ret ?_
    exact ⟨.inl rfl, _, _, res [_, _] rfl ⟨rvA [_, _] (by kernel_rfl) rfl ⟨rfl, rfl, trivial⟩, rvT rfl, trivial⟩, ⟨_, _, by rw [hd]; rfl, rfl⟩, Sub.any⟩
   ·
    have hd : decide (okP a b ∧ okP c d ∧ a < d ∧ c < b) = false := decide_eq_false (fun k => h3 ((ov_ok h1 h2).2 k.2.2))
    refine LW.e rfl (Ef.call (Ri.checkNo B (Max.max a c) (Min.min b d) h3) Try.func36 rfl rfl rfl ?_)
    rintro _ _ ⟨rfl, rfl⟩
    try simp only [List.cons_append, List.nil_append]
    refine LW.q rfl (Qt.neq rfl rfl) ?_
    refine LW.q rfl (Qt.pick rfl rfl) ?_
    refine LW.done ?_
    first | refine T.condT rfl ?_ | refine T.condPT rfl (by omega) ?_ | refine T.condBT rfl (by omega) ?_
    refine T.seq ?_
    refine T.region ?_
    refine LW.q rfl (Qt.build [(0, 1), (1, 1)] [.int .i64 0, .int .i64 0] [_, _] [] (by kernel_rfl) (by unfold zeroB; kernel_rfl) rfl rfl) ?_
    refine LW.e0 rfl (Ef.store [_, _] (by kernel_rfl) rfl rfl rfl rfl (by simp) ?_)
    try simp only [splice, List.length_cons, List.length_nil, List.drop_succ_cons, List.cons_append, List.take_succ_cons, List.take_zero, List.drop_zero, List.nil_append, List.append_nil]
    refine LW.q rfl (Qt.assign rfl) ?_
    refine LW.done ?_
    refine T.ret ?_
    exact ⟨.inl rfl, _, _, res [_, _] rfl ⟨rvA [_, _] (by kernel_rfl) rfl ⟨rfl, rfl, trivial⟩, rvT rfl, trivial⟩, ⟨0, 0, by rw [hd]; rfl, rfl⟩, Sub.any⟩
  ·
   have hd : decide (okP a b ∧ okP c d ∧ a < d ∧ c < b) = false := decide_eq_false (fun k => h2 k.2.1)
   refine LW.e rfl (Ef.call (Ri.checkNo B c d h2) Try.func36 rfl rfl rfl ?_)
   rintro _ _ ⟨rfl, rfl⟩
   try simp only [List.cons_append, List.nil_append]
   refine LW.q rfl (Qt.neq rfl rfl) ?_
   refine LW.q rfl (Qt.pick rfl rfl) ?_
   refine LW.q rfl (Qt.move rfl) ?_
   first | refine LW.gT (t := 26) rfl rfl ?_ | refine LW.gT (t := 26) rfl (decide_eq_true (by omega)) ?_ | refine LW.gT (t := 26) rfl (by omega) ?_
   refine LW.s rfl ?_
   refine LW.s rfl ?_
   refine LW.s rfl ?_
   refine LW.q rfl (Qt.pick rfl rfl) ?_
   refine LW.done ?_
   first | refine T.condT rfl ?_ | refine T.condPT rfl (by omega) ?_ | refine T.condBT rfl (by omega) ?_
   refine T.seq ?_
   refine T.region ?_
   refine LW.q rfl (Qt.build [(0, 1), (1, 1)] [.int .i64 0, .int .i64 0] [_, _] [] (by kernel_rfl) (by unfold zeroB; kernel_rfl) rfl rfl) ?_
   refine LW.e0 rfl (Ef.store [_, _] (by kernel_rfl) rfl rfl rfl rfl (by simp) ?_)
   try simp only [splice, List.length_cons, List.length_nil, List.drop_succ_cons, List.cons_append, List.take_succ_cons, List.take_zero, List.drop_zero, List.nil_append, List.append_nil]
   refine LW.q rfl (Qt.assign rfl) ?_
   refine LW.done ?_
   refine T.ret ?_
   exact ⟨.inl rfl, _, _, res [_, _] rfl ⟨rvA [_, _] (by kernel_rfl) rfl ⟨rfl, rfl, trivial⟩, rvT rfl, trivial⟩, ⟨0, 0, by rw [hd]; rfl, rfl⟩, Sub.any⟩
 ·
  have hd : decide (okP a b ∧ okP c d ∧ a < d ∧ c < b) = false := decide_eq_false (fun k => h1 k.1)
  refine LW.e rfl (Ef.call (Ri.checkNo B a b h1) Try.func36 rfl rfl rfl ?_)
  rintro _ _ ⟨rfl, rfl⟩
  try simp only [List.cons_append, List.nil_append]
  refine LW.q rfl (Qt.neq rfl rfl) ?_
  refine LW.q rfl (Qt.move rfl) ?_
  first | refine LW.gT (t := 21) rfl rfl ?_ | refine LW.gT (t := 21) rfl (decide_eq_true (by omega)) ?_ | refine LW.gT (t := 21) rfl (by omega) ?_
  refine LW.s rfl ?_
  refine LW.s rfl ?_
  refine LW.s rfl ?_
  refine LW.q rfl (Qt.pick rfl rfl) ?_
  refine LW.q rfl (Qt.move rfl) ?_
  first | refine LW.gT (t := 26) rfl rfl ?_ | refine LW.gT (t := 26) rfl (decide_eq_true (by omega)) ?_ | refine LW.gT (t := 26) rfl (by omega) ?_
  refine LW.s rfl ?_
  refine LW.s rfl ?_
  refine LW.s rfl ?_
  refine LW.q rfl (Qt.pick rfl rfl) ?_
  refine LW.done ?_
  first | refine T.condT rfl ?_ | refine T.condPT rfl (by omega) ?_ | refine T.condBT rfl (by omega) ?_
  refine T.seq ?_
  refine T.region ?_
  refine LW.q rfl (Qt.build [(0, 1), (1, 1)] [.int .i64 0, .int .i64 0] [_, _] [] (by kernel_rfl) (by unfold zeroB; kernel_rfl) rfl rfl) ?_
  refine LW.e0 rfl (Ef.store [_, _] (by kernel_rfl) rfl rfl rfl rfl (by simp) ?_)
  try simp only [splice, List.length_cons, List.length_nil, List.drop_succ_cons, List.cons_append, List.take_succ_cons, List.take_zero, List.drop_zero, List.nil_append, List.append_nil]
  refine LW.q rfl (Qt.assign rfl) ?_
  refine LW.done ?_
  refine T.ret ?_
  exact ⟨.inl rfl, _, _, res [_, _] rfl ⟨rvA [_, _] (by kernel_rfl) rfl ⟨rfl, rfl, trivial⟩, rvT rfl, trivial⟩, ⟨0, 0, by rw [hd]; rfl, rfl⟩, Sub.any⟩
theorem back_in {a b c d : Int} (h1 : okP a b) (h2 : okP c d) (h3 : a < d ∧ c < b) (hq : ¬ (c ≤ forkI a b ∧ forkI a b < d)) : forkI a b ∈ leftI c d ++ rightI c d := by
  unfold forkI at hq ⊢
  unfold leftI rightI
  rw [if_pos h1] at hq ⊢
  rw [if_pos h2, if_pos h2]
  obtain ⟨f, t, rfl, rfl, hf, ht⟩ := okP_nat h1
  obtain ⟨x, y, rfl, rfl, hx, hy⟩ := okP_nat h2
  rw [Int.toNat_natCast, Int.toNat_natCast] at hq
  rw [Int.toNat_natCast, Int.toNat_natCast, Int.toNat_natCast, Int.toNat_natCast, List.mem_append]
  rcases (overlap_iff hf ht hx hy).1 ⟨by omega, by omega⟩ with ⟨k1, k2, _⟩ | ⟨k1, k2⟩ | ⟨k1, k2, _⟩
  · exact .inl (((left_spec x).2.1 _).2 ⟨_, rfl, k1, k2⟩)
  · exact absurd ⟨by omega, by omega⟩ hq
  · exact .inr (((right_spec y).2.1 _).2 ⟨_, rfl, k1, k2⟩)
theorem fork_inI {a b : Int} (h : okP a b) : a ≤ forkI a b ∧ forkI a b < b := by
  unfold forkI
  rw [if_pos h]
  obtain ⟨f, t, rfl, rfl, hf, ht⟩ := okP_nat h
  have := fork_in hf
  rw [Int.toNat_natCast, Int.toNat_natCast]
  omega
theorem left_lenI (a b : Int) : (leftI a b).length ≤ 41 := by unfold leftI; split; exact (left_spec _).2.2; simp
theorem right_lenI (a b : Int) : (rightI a b).length ≤ 41 := by unfold rightI; split; exact (right_spec _).2.2; simp
set_option maxHeartbeats 8000000 in
set_option maxRecDepth 100000 in
theorem Ri.backbone (B : Base) (a b c d : Int) : Fn Try.prog B 9 #[pdV a b, pdV c d] [] (fun u l => u = .bool true ∧ l = []) := by
 refine Fn.enter2 109 Try.func9 rfl rfl (Nat.le_of_ble_eq_true rfl) (fun F => ?_)
 try simp only [List.cons_append, List.nil_append]
 refine T.seq ?_
 refine T.region ?_
 refine LW.e rfl (Ef.box [_, _] rfl rfl ?_)
 intro g2
 refine LW.e rfl (Ef.box [_, _] rfl rfl ?_)
 intro g3
 refine LW.q rfl (Qt.assign rfl) ?_
 refine LW.done ?_
 refine T.seq ?_
 refine T.seq ?_
 refine T.region ?_
 refine LW.e rfl (Ef.call (Ri.awake B) Try.func26 rfl rfl rfl ?_)
 rintro _ _ ⟨rfl, rfl⟩
 try simp only [List.cons_append, List.nil_append]
 first | refine LW.q rfl (Qt.notP rfl) ?_ | refine LW.q rfl (Qt.notB rfl) ?_
 refine LW.done ?_
 first | refine T.condF rfl ?_ | refine T.condPF rfl (by omega) ?_ | refine T.condBF rfl (by omega) ?_
 refine T.skip ?_
 refine T.seq ?_
 refine T.region ?_
 first | refine LW.q rfl (Qt.loadAgg [_, _] (by kernel_rfl) rfl ⟨rfl, rfl, trivial⟩) ?_ | refine LW.q rfl (Qt.loadAgg [_, _] (by kernel_rfl) rfl (by exact rdl_flat _ _ _ (by intros; rfl) _ (by omega))) ?_
 refine LW.e rfl (Ef.call (Ri.forkA B a b) Try.func27 rfl rfl rfl ?_)
 rintro _ _ ⟨rfl, rfl⟩
 try simp only [List.cons_append, List.nil_append]
 refine LW.q rfl (Qt.move rfl) ?_
 refine LW.q rfl (Qt.extr rfl rfl) ?_
 refine LW.q rfl (Qt.extr rfl rfl) ?_
 refine LW.q rfl (Qt.assign rfl) ?_
 refine LW.q rfl (Qt.assign rfl) ?_
 refine LW.done ?_
 refine T.seq ?_
 refine T.region ?_
 first | refine LW.q rfl (Qt.loadAgg [_, _] (by kernel_rfl) rfl ⟨rfl, rfl, trivial⟩) ?_ | refine LW.q rfl (Qt.loadAgg [_, _] (by kernel_rfl) rfl (by exact rdl_flat _ _ _ (by intros; rfl) _ (by omega))) ?_
 refine LW.e rfl (Ef.call (Ri.forkA B c d) Try.func27 rfl rfl rfl ?_)
 rintro _ _ ⟨rfl, rfl⟩
 try simp only [List.cons_append, List.nil_append]
 refine LW.q rfl (Qt.move rfl) ?_
 refine LW.q rfl (Qt.extr rfl rfl) ?_
 refine LW.q rfl (Qt.extr rfl rfl) ?_
 refine LW.q rfl (Qt.assign rfl) ?_
 refine LW.q rfl (Qt.assign rfl) ?_
 refine LW.done ?_
 refine T.seq ?_
 refine T.region ?_
 first | refine LW.q rfl (Qt.loadAgg [_, _] (by kernel_rfl) rfl ⟨rfl, rfl, trivial⟩) ?_ | refine LW.q rfl (Qt.loadAgg [_, _] (by kernel_rfl) rfl (by exact rdl_flat _ _ _ (by intros; rfl) _ (by omega))) ?_
 refine LW.e rfl (Ef.call (Ri.nodesA B c d) Try.func29 rfl rfl rfl ?_)
 rintro _ _ ⟨p1, c1, p2, c2, rfl, rfl⟩
 try simp only [List.cons_append, List.nil_append]
 by_cases h1 : okP a b
 ·
  have e1 : codeP a b = 0 := by unfold codeP; rw [if_pos h1]
  rw [e1]
  refine LW.q rfl (Qt.move rfl) ?_
  refine LW.q rfl (Qt.extr rfl rfl) ?_
  refine LW.q rfl (Qt.extr rfl rfl) ?_
  refine LW.q rfl (Qt.extr rfl rfl) ?_
  refine LW.q rfl (Qt.assign rfl) ?_
  refine LW.q rfl (Qt.assign rfl) ?_
  refine LW.q rfl (Qt.assign rfl) ?_
  refine LW.done ?_
  refine T.seq ?_
  refine T.seq ?_
  refine T.region ?_
  refine LW.q rfl (Qt.move rfl) ?_
  refine LW.q rfl (Qt.neq rfl rfl) ?_
  refine LW.q rfl (Qt.move rfl) ?_
  first | refine LW.gF (t := 36) rfl rfl ?_ | refine LW.gF (t := 36) rfl (decide_eq_false (by omega)) ?_ | refine LW.gF (t := 36) rfl (by omega) ?_
  refine LW.q rfl (Qt.move rfl) ?_
  refine LW.q rfl (Qt.neq rfl rfl) ?_
  refine LW.q rfl (Qt.pick rfl rfl) ?_
  refine LW.q rfl (Qt.move rfl) ?_
  by_cases h2 : okP c d
  ·
   have e3 : codeP c d = 0 := by unfold codeP; rw [if_pos h2]
   rw [e3]
   first | refine LW.gF (t := 40) rfl rfl ?_ | refine LW.gF (t := 40) rfl (decide_eq_false (by omega)) ?_ | refine LW.gF (t := 40) rfl (by omega) ?_
   refine LW.q rfl (Qt.move rfl) ?_
   refine LW.q rfl (Qt.neq rfl rfl) ?_
   refine LW.q rfl (Qt.pick rfl rfl) ?_
   refine LW.done ?_
   first | refine T.condF rfl ?_ | refine T.condPF rfl (by omega) ?_ | refine T.condBF rfl (by omega) ?_
   have hf1 := fork_inI h1
   have hf2 := fork_inI h2
   have hl1 := left_lenI c d
   have hl2 := right_lenI c d
   refine T.skip ?_
   refine T.seq ?_
   refine T.seq ?_
   refine T.region ?_
   first | refine LW.q rfl (Qt.loadAgg [_, _] (by kernel_rfl) rfl ⟨rfl, rfl, trivial⟩) ?_ | refine LW.q rfl (Qt.loadAgg [_, _] (by kernel_rfl) rfl (by exact rdl_flat _ _ _ (by intros; rfl) _ (by omega))) ?_
   refine LW.q rfl (Qt.move rfl) ?_
   refine LW.e rfl (Ef.call (Ri.has B a b (forkI a b)) Try.func37 rfl rfl rfl ?_)
   rintro _ _ ⟨rfl, rfl⟩
   try simp only [List.cons_append, List.nil_append]
   rw [decide_eq_true hf1]
   first | refine LW.q rfl (Qt.notP rfl) ?_ | refine LW.q rfl (Qt.notB rfl) ?_
   refine LW.q rfl (Qt.move rfl) ?_
   first | refine LW.gF (t := 66) rfl rfl ?_ | refine LW.gF (t := 66) rfl (decide_eq_false (by omega)) ?_ | refine LW.gF (t := 66) rfl (by omega) ?_
   first | refine LW.q rfl (Qt.loadAgg [_, _] (by kernel_rfl) rfl ⟨rfl, rfl, trivial⟩) ?_ | refine LW.q rfl (Qt.loadAgg [_, _] (by kernel_rfl) rfl (by exact rdl_flat _ _ _ (by intros; rfl) _ (by omega))) ?_
   refine LW.q rfl (Qt.move rfl) ?_
   refine LW.e rfl (Ef.call (Ri.has B c d (forkI c d)) Try.func37 rfl rfl rfl ?_)
   rintro _ _ ⟨rfl, rfl⟩
   try simp only [List.cons_append, List.nil_append]
   rw [decide_eq_true hf2]
   first | refine LW.q rfl (Qt.notP rfl) ?_ | refine LW.q rfl (Qt.notB rfl) ?_
   refine LW.q rfl (Qt.pick rfl rfl) ?_
   refine LW.q rfl (Qt.move rfl) ?_
   first | refine LW.gF (t := 72) rfl rfl ?_ | refine LW.gF (t := 72) rfl (decide_eq_false (by omega)) ?_ | refine LW.gF (t := 72) rfl (by omega) ?_
   refine LW.q rfl (Qt.move rfl) ?_
   refine LW.q rfl (Qt.len (e := 2) (sz := 1) (by kernel_rfl) rfl) ?_
   refine LW.q rfl (Qt.gtr rfl rfl) ?_
   refine LW.q rfl (Qt.pick rfl rfl) ?_
   refine LW.q rfl (Qt.move rfl) ?_
   first | refine LW.gF (t := 77) rfl rfl ?_ | refine LW.gF (t := 77) rfl (decide_eq_false (by omega)) ?_ | refine LW.gF (t := 77) rfl (by omega) ?_
   refine LW.q rfl (Qt.move rfl) ?_
   refine LW.q rfl (Qt.len (e := 2) (sz := 1) (by kernel_rfl) rfl) ?_
   refine LW.q rfl (Qt.gtr rfl rfl) ?_
   refine LW.q rfl (Qt.pick rfl rfl) ?_
   refine LW.done ?_
   first | refine T.condF rfl ?_ | refine T.condPF rfl (by omega) ?_ | refine T.condBF rfl (by omega) ?_
   refine T.skip ?_
   refine T.seq ?_
   refine T.seq ?_
   refine T.region ?_
   first | refine LW.q rfl (Qt.loadAgg [_, _] (by kernel_rfl) rfl ⟨rfl, rfl, trivial⟩) ?_ | refine LW.q rfl (Qt.loadAgg [_, _] (by kernel_rfl) rfl (by exact rdl_flat _ _ _ (by intros; rfl) _ (by omega))) ?_
   first | refine LW.q rfl (Qt.loadAgg [_, _] (by kernel_rfl) rfl ⟨rfl, rfl, trivial⟩) ?_ | refine LW.q rfl (Qt.loadAgg [_, _] (by kernel_rfl) rfl (by exact rdl_flat _ _ _ (by intros; rfl) _ (by omega))) ?_
   refine LW.e rfl (Ef.call (Ri.pover B a b c d) Try.func38 rfl rfl rfl ?_)
   rintro _ _ ⟨x, y, rfl, rfl⟩
   try simp only [List.cons_append, List.nil_append]
   by_cases hb : okP a b ∧ okP c d ∧ a < d ∧ c < b
   ·
    rw [decide_eq_true hb]
    refine LW.q rfl (Qt.move rfl) ?_
    refine LW.q rfl (Qt.extr rfl rfl) ?_
    refine LW.q rfl (Qt.extr rfl rfl) ?_
    refine LW.e rfl (Ef.alloc [.int .i64 0, .int .i64 0] (by unfold zeroB; kernel_rfl) ?_)
    intro g12
    refine LW.e0 rfl (Ef.store [_, _] (by kernel_rfl) rfl rfl rfl rfl (by simp) ?_)
    try simp only [splice, List.length_cons, List.length_nil, List.drop_succ_cons, List.cons_append, List.take_succ_cons, List.take_zero, List.drop_zero, List.nil_append, List.append_nil]
    refine LW.q rfl (Qt.assign rfl) ?_
    refine LW.done ?_
    refine T.seq ?_
    refine T.region ?_
    refine LW.q rfl (Qt.move rfl) ?_
    first | refine LW.q rfl (Qt.notP rfl) ?_ | refine LW.q rfl (Qt.notB rfl) ?_
    refine LW.q rfl (Qt.move rfl) ?_
    first | refine LW.gF (t := 90) rfl rfl ?_ | refine LW.gF (t := 90) rfl (decide_eq_false (by omega)) ?_ | refine LW.gF (t := 90) rfl (by omega) ?_
    first | refine LW.q rfl (Qt.loadAgg [_, _] (by kernel_rfl) rfl ⟨rfl, rfl, trivial⟩) ?_ | refine LW.q rfl (Qt.loadAgg [_, _] (by kernel_rfl) rfl (by exact rdl_flat _ _ _ (by intros; rfl) _ (by omega))) ?_
    refine LW.q rfl (Qt.move rfl) ?_
    refine LW.e rfl (Ef.call (Ri.has B c d (forkI a b)) Try.func37 rfl rfl rfl ?_)
    rintro _ _ ⟨rfl, rfl⟩
    try simp only [List.cons_append, List.nil_append]
    by_cases hq : c ≤ forkI a b ∧ forkI a b < d
    ·
     refine LW.q rfl (Qt.pick rfl rfl) ?_
     refine LW.done ?_
     first | refine T.condT rfl ?_ | refine T.condPT rfl ((by simpa using hq)) ?_ | refine T.condBT rfl ((by simpa using hq)) ?_
     refine T.seq ?_
     refine T.region ?_
     refine LW.q rfl (Qt.assign rfl) ?_
     refine LW.done ?_
     refine T.ret ?_
     exact ⟨.inl rfl, _, _, res [_] rfl ⟨rvT rfl, trivial⟩, ⟨rfl, rfl⟩, Sub.any⟩
    ·
     refine LW.q rfl (Qt.pick rfl rfl) ?_
     refine LW.done ?_
     first | refine T.condF rfl ?_ | refine T.condPF rfl ((by simpa using hq)) ?_ | refine T.condBF rfl ((by simpa using hq)) ?_
     have hin := back_in h1 h2 hb.2.2 hq
     refine T.skip ?_
     refine T.seq ?_
     refine T.seq ?_
     refine T.region ?_
     refine LW.e rfl (Ef.empty Ri.elemZ ?_)
     rintro g9
     try simp only [List.cons_append, List.nil_append]
     refine LW.q rfl (Qt.move rfl) ?_
     refine LW.e rfl (Ef.append Ri.elemZ rfl rfl (SrcOf.row (by kernel_rfl) one_iVz) (by unfold maxLen; omega) (by omega) ?_)
     rintro p3 c3 hp3
     try simp only [List.cons_append, List.nil_append]
     refine LW.q rfl (Qt.move rfl) ?_
     refine LW.e rfl (Ef.append Ri.elemZ rfl rfl (SrcOf.row (by kernel_rfl) one_iVz) (by unfold maxLen; omega) (by omega) ?_)
     rintro p4 c4 hp4
     try simp only [List.cons_append, List.nil_append]
     try simp only [Nat.zero_add, List.nil_append]
     rw [← List.map_append, ← List.length_append]
     obtain ⟨X, hX⟩ : ∃ X, X = leftI c d ++ rightI c d := ⟨_, rfl⟩
     have hXl : X.length ≤ 82 := by rw [hX, List.length_append]; omega
     rw [← hX] at hin ⊢
     refine LW.q rfl (Qt.len (e := 2) (sz := 1) (by kernel_rfl) rfl) ?_
     refine LW.q rfl (Qt.move rfl) ?_
     refine LW.done ?_
     refine T.block ?_
     refine T.loop (fun mz fz lz => ∃ (f0 : Fr) (i : Nat), (i ≤ X.length ∧ ∀ (j : Nat) (h : j < X.length), j < i → X[j] ≠ forkI a b) ∧ mz = X.length - i ∧ fz = (upd (upd (upd (upd f0 5 (.int .i64 (forkI a b))) 99 (.slice p4 X.length c4)) 100 (.int .i64 X.length)) 101 (.int .i64 i)) ∧ lz = rZ p4 X.length c4 X :: F) ?_ ?_
     · refine ⟨_, _, ⟨_, 0, ⟨Nat.zero_le _, fun j _ h => by omega⟩, rfl, (updS rfl (updS rfl (updS rfl (updS rfl rfl)))), rfl⟩, Sub.any⟩
     ·
      rintro mz fz lz ⟨f0, i, ⟨hi, hnot⟩, hmz, rfl, rfl⟩
      subst mz
      try simp only [List.cons_append, List.nil_append]
      refine T.seq ?_
      refine T.region ?_
      refine LW.q rfl (Qt.lss rfl rfl) ?_
      refine LW.done ?_
      refine T.seq ?_
      refine T.condP rfl (fun hlt => ?_) (fun hlt => ?_)
      ·
       have hix : i < X.length := by omega
       refine T.own fun w1 ho1 => ?_
       obtain ⟨g6, rfl⟩ := (ho1.slice_at (p := p4) (m := X.length) (c := c4) (k := X.length)).2.1 (by omega)
       clear ho1
       refine T.skip ?_
       refine T.seq ?_
       refine T.block ?_
       refine T.seq ?_
       refine T.region ?_
       refine LW.q rfl (Qt.index i (e := 2) (sz := 1) (by kernel_rfl) rfl rfl rfl hix) ?_
       refine LW.q rfl (Qt.load (v := iV X[i]) (by kernel_rfl) rfl (map_at _ _ _ hix)) ?_
       refine LW.q rfl (Qt.assign rfl) ?_
       refine LW.done ?_
       refine T.seq ?_
       refine T.region ?_
       refine LW.q rfl (Qt.move rfl) ?_
       refine LW.q rfl (Qt.move rfl) ?_
       refine LW.q rfl (Qt.eql rfl rfl) ?_
       refine LW.done ?_
       refine T.condP rfl (fun hx => ?_) (fun hx => ?_)
       ·
        refine T.seq ?_
        refine T.region ?_
        refine LW.q rfl (Qt.assign rfl) ?_
        refine LW.done ?_
        refine T.ret ?_
        exact ⟨.inl rfl, _, _, res [_] rfl ⟨rvT rfl, trivial⟩, ⟨rfl, rfl⟩, Sub.any⟩
       ·
        refine T.skip ?_
        refine T.region ?_
        refine LW.q rfl (Qt.add rfl rfl (wr64 (by omega) (by omega))) ?_
        refine LW.q rfl (Qt.move rfl) ?_
        refine LW.done ?_
        refine ⟨_, ?_, _, ⟨_, i + 1, ⟨by omega, fun j hj hlt => by rcases (by omega : j < i ∨ j = i) with h | rfl; exact hnot j hj h; exact hx⟩, rfl, (updS rfl (updS rfl (updS rfl (updS rfl rfl)))), rfl⟩, Sub.any⟩
        first | omega | (simp; omega)
      ·
       obtain ⟨j, hj, hje⟩ := List.getElem_of_mem hin
       refine T.exit ?_
       refine T.seq ?_
       refine T.region ?_
       refine LW.q rfl (Qt.assign rfl) ?_
       refine LW.done ?_
       refine T.ret ?_
       exact absurd hje (hnot j hj (by omega))
   ·
    rw [decide_eq_false hb]
    refine LW.q rfl (Qt.move rfl) ?_
    refine LW.q rfl (Qt.extr rfl rfl) ?_
    refine LW.q rfl (Qt.extr rfl rfl) ?_
    refine LW.e rfl (Ef.alloc [.int .i64 0, .int .i64 0] (by unfold zeroB; kernel_rfl) ?_)
    intro g12
    refine LW.e0 rfl (Ef.store [_, _] (by kernel_rfl) rfl rfl rfl rfl (by simp) ?_)
    try simp only [splice, List.length_cons, List.length_nil, List.drop_succ_cons, List.cons_append, List.take_succ_cons, List.take_zero, List.drop_zero, List.nil_append, List.append_nil]
    refine LW.q rfl (Qt.assign rfl) ?_
    refine LW.done ?_
    refine T.seq ?_
    refine T.region ?_
    refine LW.q rfl (Qt.move rfl) ?_
    first | refine LW.q rfl (Qt.notP rfl) ?_ | refine LW.q rfl (Qt.notB rfl) ?_
    refine LW.q rfl (Qt.move rfl) ?_
    first | refine LW.gT (t := 90) rfl rfl ?_ | refine LW.gT (t := 90) rfl (decide_eq_true (by omega)) ?_ | refine LW.gT (t := 90) rfl (by omega) ?_
    refine LW.s rfl ?_
    refine LW.s rfl ?_
    refine LW.s rfl ?_
    refine LW.q rfl (Qt.pick rfl rfl) ?_
    refine LW.done ?_
    first | refine T.condT rfl ?_ | refine T.condPT rfl (by omega) ?_ | refine T.condBT rfl (by omega) ?_
    refine T.seq ?_
    refine T.region ?_
    refine LW.q rfl (Qt.assign rfl) ?_
    refine LW.done ?_
    refine T.ret ?_
    exact ⟨.inl rfl, _, _, res [_] rfl ⟨rvT rfl, trivial⟩, ⟨rfl, rfl⟩, Sub.any⟩
  ·
   have e3 : codeP c d = 40 := by unfold codeP; rw [if_neg h2]
   have e4 : forkI c d = 0 := by unfold forkI; rw [if_neg h2]
   rw [e3, e4]
   first | refine LW.gT (t := 40) rfl rfl ?_ | refine LW.gT (t := 40) rfl (decide_eq_true (by omega)) ?_ | refine LW.gT (t := 40) rfl (by omega) ?_
   refine LW.s rfl ?_
   refine LW.s rfl ?_
   refine LW.q rfl (Qt.pick rfl rfl) ?_
   refine LW.done ?_
   first | refine T.condT rfl ?_ | refine T.condPT rfl (by omega) ?_ | refine T.condBT rfl (by omega) ?_
   refine T.seq ?_
   refine T.region ?_
   refine LW.q rfl (Qt.move rfl) ?_
   refine LW.q rfl (Qt.neq rfl rfl) ?_
   refine LW.q rfl (Qt.move rfl) ?_
   first | refine LW.gF (t := 46) rfl rfl ?_ | refine LW.gF (t := 46) rfl (decide_eq_false (by omega)) ?_ | refine LW.gF (t := 46) rfl (by omega) ?_
   refine LW.s rfl ?_
   refine LW.s rfl ?_
   refine LW.q rfl (Qt.pick rfl rfl) ?_
   refine LW.q rfl (Qt.move rfl) ?_
   first | refine LW.gF (t := 50) rfl rfl ?_ | refine LW.gF (t := 50) rfl (decide_eq_false (by omega)) ?_ | refine LW.gF (t := 50) rfl (by omega) ?_
   refine LW.q rfl (Qt.move rfl) ?_
   refine LW.q rfl (Qt.neq rfl rfl) ?_
   refine LW.q rfl (Qt.move rfl) ?_
   first | refine LW.gT (t := 53) rfl rfl ?_ | refine LW.gT (t := 53) rfl (decide_eq_true (by omega)) ?_ | refine LW.gT (t := 53) rfl (by omega) ?_
   refine LW.q rfl (Qt.move rfl) ?_
   refine LW.q rfl (Qt.eql rfl rfl) ?_
   refine LW.q rfl (Qt.pick rfl rfl) ?_
   refine LW.q rfl (Qt.move rfl) ?_
   first | refine LW.gT (t := 57) rfl rfl ?_ | refine LW.gT (t := 57) rfl (decide_eq_true (by omega)) ?_ | refine LW.gT (t := 57) rfl (by omega) ?_
   refine LW.q rfl (Qt.move rfl) ?_
   refine LW.q rfl (Qt.neq rfl rfl) ?_
   refine LW.q rfl (Qt.pick rfl rfl) ?_
   refine LW.q rfl (Qt.pick rfl rfl) ?_
   refine LW.q rfl (Qt.assign rfl) ?_
   refine LW.done ?_
   refine T.ret ?_
   exact ⟨.inl rfl, _, _, res [_] rfl ⟨rvT rfl, trivial⟩, ⟨rfl, rfl⟩, Sub.any⟩
 ·
  have e1 : codeP a b = 40 := by unfold codeP; rw [if_neg h1]
  have e2 : forkI a b = 0 := by unfold forkI; rw [if_neg h1]
  rw [e1, e2]
  refine LW.q rfl (Qt.move rfl) ?_
  refine LW.q rfl (Qt.extr rfl rfl) ?_
  refine LW.q rfl (Qt.extr rfl rfl) ?_
  refine LW.q rfl (Qt.extr rfl rfl) ?_
  refine LW.q rfl (Qt.assign rfl) ?_
  refine LW.q rfl (Qt.assign rfl) ?_
  refine LW.q rfl (Qt.assign rfl) ?_
  refine LW.done ?_
  refine T.seq ?_
  refine T.seq ?_
  refine T.region ?_
  refine LW.q rfl (Qt.move rfl) ?_
  refine LW.q rfl (Qt.neq rfl rfl) ?_
  refine LW.q rfl (Qt.move rfl) ?_
  first | refine LW.gT (t := 36) rfl rfl ?_ | refine LW.gT (t := 36) rfl (decide_eq_true (by omega)) ?_ | refine LW.gT (t := 36) rfl (by omega) ?_
  refine LW.s rfl ?_
  refine LW.s rfl ?_
  refine LW.q rfl (Qt.pick rfl rfl) ?_
  refine LW.q rfl (Qt.move rfl) ?_
  first | refine LW.gT (t := 40) rfl rfl ?_ | refine LW.gT (t := 40) rfl (decide_eq_true (by omega)) ?_ | refine LW.gT (t := 40) rfl (by omega) ?_
  refine LW.s rfl ?_
  refine LW.s rfl ?_
  refine LW.q rfl (Qt.pick rfl rfl) ?_
  refine LW.done ?_
  first | refine T.condT rfl ?_ | refine T.condPT rfl (by omega) ?_ | refine T.condBT rfl (by omega) ?_
  refine T.seq ?_
  refine T.region ?_
  refine LW.q rfl (Qt.move rfl) ?_
  refine LW.q rfl (Qt.neq rfl rfl) ?_
  refine LW.q rfl (Qt.move rfl) ?_
  first | refine LW.gT (t := 46) rfl rfl ?_ | refine LW.gT (t := 46) rfl (decide_eq_true (by omega)) ?_ | refine LW.gT (t := 46) rfl (by omega) ?_
  refine LW.q rfl (Qt.move rfl) ?_
  refine LW.q rfl (Qt.eql rfl rfl) ?_
  refine LW.q rfl (Qt.pick rfl rfl) ?_
  refine LW.q rfl (Qt.move rfl) ?_
  first | refine LW.gT (t := 50) rfl rfl ?_ | refine LW.gT (t := 50) rfl (decide_eq_true (by omega)) ?_ | refine LW.gT (t := 50) rfl (by omega) ?_
  refine LW.s rfl ?_
  refine LW.s rfl ?_
  refine LW.s rfl ?_
  refine LW.s rfl ?_
  refine LW.s rfl ?_
  refine LW.s rfl ?_
  refine LW.s rfl ?_
  refine LW.s rfl ?_
  refine LW.s rfl ?_
  refine LW.s rfl ?_
  refine LW.q rfl (Qt.pick rfl rfl) ?_
  refine LW.q rfl (Qt.assign rfl) ?_
  refine LW.done ?_
  refine T.ret ?_
  exact ⟨.inl rfl, _, _, res [_] rfl ⟨rvT rfl, trivial⟩, ⟨rfl, rfl⟩, Sub.any⟩
end Go.Proofs.Ytefognjcognknaa

/- The laws of ritree: RitreeFinds. Conditions: that the periods can be read; sizes. -/
set_option linter.unusedSimpArgs false
set_option linter.unusedVariables false
namespace Go.Proofs.Ytefognjcognknaa
open Go.RowKit
theorem ov_spec {M : List PE} (hnd : (M.map (·.1)).Nodup) (a b : Nat) : RiseZ (ovZ M a b) ∧ ∀ x, x ∈ ovZ M a b ↔ ∃ e ∈ M, e.1 = x ∧ (e.2.1 < b ∧ a < e.2.2) := by
  have h : ((M.filter fun e => decide (e.2.1 < b ∧ a < e.2.2)).map (·.1)).Nodup := hnd.sublist (List.filter_sublist.map _)
  obtain ⟨o1, o2, _⟩ := all_spec h
  refine ⟨o1, fun x => ?_⟩
  show x ∈ allZ _ ↔ _
  rw [o2, List.mem_map]
  constructor
  · rintro ⟨e, he, rfl⟩
    obtain ⟨h1, h2⟩ := List.mem_filter.1 he
    exact ⟨e, h1, rfl, by simpa using h2⟩
  · rintro ⟨e, he, rfl, hq⟩
    exact ⟨e, List.mem_filter.2 ⟨he, by simpa using hq⟩, rfl⟩
theorem head_least {l : List Int} {x : Int} (hr : RiseZ l) (hx : x ∈ l) (hall : ∀ y ∈ l, x ≤ y) : ∃ tl, l = x :: tl := by
  rcases l with _ | ⟨y, tl⟩
  · simp at hx
  · rcases List.mem_cons.1 hx with rfl | h
    · exact ⟨tl, rfl⟩
    · have h1 := (List.pairwise_cons.1 hr).1 x h
      have h2 := hall y (List.mem_cons_self ..)
      omega
/-- The tree with the period that is looked for. -/
abbrev addP (M : List PE) (f t : Nat) : List PE := M ++ [((-1 : Int), (f, t))]
theorem finds_ov {M : List PE} {f t x y : Nat} (hnd : ((addP M f t).map (·.1)).Nodup) (hM : ∀ e ∈ M, 1 ≤ e.1) : ((f < y ∧ x < t) → ∃ tl, ovZ (addP M f t) x y = (-1) :: tl) ∧ (¬ (f < y ∧ x < t) → ∀ z ∈ ovZ (addP M f t) x y, z ≠ -1) := by
  obtain ⟨h1, h2⟩ := ov_spec hnd x y
  have hall : ∀ z ∈ ovZ (addP M f t) x y, (-1 : Int) ≤ z := fun z hz => by
    obtain ⟨e, he, rfl, _⟩ := (h2 z).1 hz
    rcases List.mem_append.1 he with he | he
    · have := hM e he; omega
    · rw [List.mem_singleton.1 he]; simp
  refine ⟨fun h => head_least h1 ((h2 _).2 ⟨((-1 : Int), (f, t)), List.mem_append_right _ (List.mem_singleton.2 rfl), rfl, h⟩) hall, fun h z hz e => ?_⟩
  subst e
  obtain ⟨e, he, e1, e2⟩ := (h2 _).1 hz
  rcases List.mem_append.1 he with he | he
  · have := hM e he; omega
  · rw [List.mem_singleton.1 he] at e2; exact h e2
theorem mem_addM {M : List PE} {id f t : Int} {e : PE} (h : e ∈ addM M id f t) : e ∈ M ∨ e.1 = id := by
  unfold addM at h
  split at h
  · rcases List.mem_append.1 h with h | h
    · exact .inl h
    · rw [List.mem_singleton.1 h]; exact .inr rfl
  · exact .inl h
set_option maxHeartbeats 8000000 in
set_option maxRecDepth 100000 in
theorem Ri.finds (B : Base) (v : Value) (xs : List (Int × Int)) (a b c d : Int) (hv : RoLPd B v xs) (hn : xs.length < 2 ^ 30) : Fn Try.prog B 12 #[pdV a b, pdV c d, v] [] (fun u l => u = .bool true ∧ l = []) := by
 obtain ⟨sa, scap, rfl, hsc⟩ := hv
 refine Fn.enter3 119 Try.func12 rfl rfl (Nat.le_of_ble_eq_true rfl) (fun F => ?_)
 try simp only [List.cons_append, List.nil_append]
 refine T.seq ?_
 refine T.region ?_
 refine LW.e rfl (Ef.box [_, _] rfl rfl ?_)
 intro g3
 refine LW.e rfl (Ef.box [_, _] rfl rfl ?_)
 intro g4
 refine LW.q rfl (Qt.assign rfl) ?_
 refine LW.done ?_
 refine T.seq ?_
 refine T.seq ?_
 refine T.region ?_
 refine LW.e rfl (Ef.call (Ri.awake B) Try.func26 rfl rfl rfl ?_)
 rintro _ _ ⟨rfl, rfl⟩
 try simp only [List.cons_append, List.nil_append]
 first | refine LW.q rfl (Qt.notP rfl) ?_ | refine LW.q rfl (Qt.notB rfl) ?_
 refine LW.done ?_
 first | refine T.condF rfl ?_ | refine T.condPF rfl (by omega) ?_ | refine T.condBF rfl (by omega) ?_
 refine T.skip ?_
 refine T.seq ?_
 refine T.region ?_
 refine LW.e rfl (Ef.call (Ri.new B) Try.func32 rfl rfl rfl ?_)
 rintro _ _ ⟨g, gl, gu, gm, rfl, rfl⟩
 try simp only [List.cons_append, List.nil_append]
 refine LW.q rfl (Qt.assign rfl) ?_
 refine LW.done ?_
 refine T.seq ?_
 refine T.seq ?_
 refine T.region ?_
 refine LW.q rfl (Qt.move rfl) ?_
 refine LW.q rfl (Qt.len (e := 57) (sz := 2) (by kernel_rfl) rfl) ?_
 refine LW.q rfl (Qt.move rfl) ?_
 refine LW.done ?_
 refine T.block ?_
 refine T.loop (fun mz fz lz => ∃ (f0 : Fr) (i : Nat) (M : List PE) (L U : List KV), (i ≤ xs.length ∧ (∀ e ∈ M, 1 ≤ e.1) ∧ RiOk M L U i) ∧ mz = xs.length - i ∧ fz = (upd (upd (upd (upd (upd (upd f0 3 (pV g3)) 4 (pV g4)) 7 (pV g)) 22 (.slice sa xs.length scap)) 23 (.int .i64 xs.length)) 24 (.int .i64 i)) ∧ lz = blk g3 [.int .i64 a, .int .i64 b] 57 :: blk g4 [.int .i64 c, .int .i64 d] 57 :: (riL g gl gu gm M L U ++ F)) ?_ ?_
 · refine ⟨_, _, ⟨_, 0, [], [], [], ⟨Nat.zero_le _, (fun _ h => nomatch h), RiOk.nil⟩, rfl, (updS rfl (updS rfl (updS rfl (updS rfl (updS rfl (updS rfl rfl)))))), rfl⟩, Sub.any⟩
 ·
  rintro mz fz lz ⟨f0, i, M, L, U, ⟨hi, hM, hr⟩, hmz, rfl, rfl⟩
  subst mz
  try simp only [List.cons_append, List.nil_append]
  refine T.seq ?_
  refine T.region ?_
  refine LW.q rfl (Qt.lss rfl rfl) ?_
  refine LW.done ?_
  refine T.seq ?_
  refine T.condP rfl (fun hil => ?_) (fun hil => ?_)
  ·
   have hil' : i < xs.length := by omega
   obtain ⟨kb, ko, C, rfl, hro, hC⟩ := hsc.resolve_left (by intro e; rw [e] at hil'; simp at hil')
   have hrd := hC i hil'
   refine T.skip ?_
   refine T.seq ?_
   refine T.block ?_
   refine T.seq ?_
   refine T.region ?_
   refine LW.q rfl (Qt.move rfl) ?_
   refine LW.q rfl (Qt.index i (e := 57) (sz := 2) (by kernel_rfl) rfl rfl rfl hil') ?_
   refine LW.q rfl (Qt.loadAgg [_, _] (by kernel_rfl) rfl hrd) ?_
   refine LW.e rfl (Ef.alloc [.int .i64 0, .int .i64 0] (by unfold zeroB; kernel_rfl) ?_)
   intro g9
   refine LW.q rfl (Qt.assign rfl) ?_
   refine LW.e0 rfl (Ef.store [_, _] (by kernel_rfl) rfl rfl rfl rfl (by simp) ?_)
   try simp only [splice, List.length_cons, List.length_nil, List.drop_succ_cons, List.cons_append, List.take_succ_cons, List.take_zero, List.drop_zero, List.nil_append, List.append_nil]
   refine LW.done ?_
   refine T.region ?_
   refine LW.q rfl (Qt.move rfl) ?_
   refine LW.q rfl (Qt.move rfl) ?_
   refine LW.q rfl (Qt.add (r := ((i + 1 : Nat) : Int)) rfl rfl (by rw [wr64 (by omega) (by omega)]; omega)) ?_
   first | refine LW.q rfl (Qt.loadAgg [_, _] (by kernel_rfl) rfl ⟨rfl, rfl, trivial⟩) ?_ | refine LW.q rfl (Qt.loadAgg [_, _] (by kernel_rfl) rfl (by exact rdl_flat _ _ _ (by intros; rfl) _ (by omega))) ?_
   refine LW.e rfl (Ef.call (Ri.addA B g gl gu gm M L U i hr (by omega) ((i + 1 : Nat) : Int) xs[i].1 xs[i].2 (by unfold minI; omega) (by omega)) Try.func33 rfl rfl rfl ?_)
   rintro _ _ ⟨L', U', hr', rfl, rfl⟩
   try simp only [List.cons_append, List.nil_append]
   refine LW.done ?_
   refine T.region ?_
   refine LW.q rfl (Qt.add rfl rfl (wr64 (by omega) (by omega))) ?_
   refine LW.q rfl (Qt.move rfl) ?_
   refine LW.done ?_
   refine ⟨_, ?_, _, ⟨_, i + 1, addM M ((i + 1 : Nat) : Int) xs[i].1 xs[i].2, L', U', ⟨by omega, fun e he => by rcases mem_addM he with h | h; exact hM e h; omega, hr'⟩, rfl, (updS rfl (updS rfl (updS rfl (updS rfl (updS rfl (updS rfl rfl)))))), rfl⟩, Sub.any⟩
   first | omega | (simp; omega)
  ·
   have hln : lookM M (-1 : Int) = none := look_none fun e he k => by have := hM e he; omega
   refine T.exit ?_
   refine T.seq ?_
   refine T.region ?_
   refine LW.q rfl (Qt.move rfl) ?_
   first | refine LW.q rfl (Qt.loadAgg [_, _] (by kernel_rfl) rfl ⟨rfl, rfl, trivial⟩) ?_ | refine LW.q rfl (Qt.loadAgg [_, _] (by kernel_rfl) rfl (by exact rdl_flat _ _ _ (by intros; rfl) _ (by omega))) ?_
   refine LW.e rfl (Ef.call (Ri.addA B g gl gu gm M L U i hr (by omega) (-1) a b (by decide) (by decide)) Try.func33 rfl rfl rfl ?_)
   rintro _ _ ⟨L', U', hr', rfl, rfl⟩
   try simp only [List.cons_append, List.nil_append]
   by_cases h1 : okP a b
   ·
    have e1 : addCode M (-1) a b = 0 := by unfold addCode; rw [if_pos h1, hln]; rfl
    have e2 : addM M (-1) a b = addP M a.toNat b.toNat := by unfold addM; rw [if_pos ⟨h1, hln⟩]
    rw [e1, e2]
    rw [e2] at hr'
    obtain ⟨f, t, rfl, rfl, hft, ht⟩ := okP_nat h1
    rw [Int.toNat_natCast, Int.toNat_natCast] at hr' ⊢
    refine LW.q rfl (Qt.assign rfl) ?_
    refine LW.done ?_
    refine T.seq ?_
    refine T.seq ?_
    refine T.region ?_
    refine LW.q rfl (Qt.move rfl) ?_
    refine LW.q rfl (Qt.neq rfl rfl) ?_
    refine LW.done ?_
    first | refine T.condF rfl ?_ | refine T.condPF rfl (by omega) ?_ | refine T.condBF rfl (by omega) ?_
    refine T.skip ?_
    refine T.seq ?_
    refine T.region ?_
    refine LW.q rfl (Qt.move rfl) ?_
    first | refine LW.q rfl (Qt.loadAgg [_, _] (by kernel_rfl) rfl ⟨rfl, rfl, trivial⟩) ?_ | refine LW.q rfl (Qt.loadAgg [_, _] (by kernel_rfl) rfl (by exact rdl_flat _ _ _ (by intros; rfl) _ (by omega))) ?_
    refine LW.e rfl (Ef.call (Ri.overA B g gl gu gm (addP M f t) L' U' (i + 1) hr' (by omega) c d) Try.func34 rfl rfl rfl ?_)
    rintro _ _ ⟨p1, c1, rfl, rfl⟩
    try simp only [List.cons_append, List.nil_append]
    refine LW.q rfl (Qt.move rfl) ?_
    refine LW.q rfl (Qt.extr rfl rfl) ?_
    refine LW.q rfl (Qt.extr rfl rfl) ?_
    refine LW.q rfl (Qt.assign rfl) ?_
    refine LW.q rfl (Qt.assign rfl) ?_
    refine LW.done ?_
    refine T.seq ?_
    refine T.region ?_
    first | refine LW.q rfl (Qt.loadAgg [_, _] (by kernel_rfl) rfl ⟨rfl, rfl, trivial⟩) ?_ | refine LW.q rfl (Qt.loadAgg [_, _] (by kernel_rfl) rfl (by exact rdl_flat _ _ _ (by intros; rfl) _ (by omega))) ?_
    first | refine LW.q rfl (Qt.loadAgg [_, _] (by kernel_rfl) rfl ⟨rfl, rfl, trivial⟩) ?_ | refine LW.q rfl (Qt.loadAgg [_, _] (by kernel_rfl) rfl (by exact rdl_flat _ _ _ (by intros; rfl) _ (by omega))) ?_
    refine LW.e rfl (Ef.call (Ri.pover B f t c d) Try.func38 rfl rfl rfl ?_)
    rintro _ _ ⟨x, y, rfl, rfl⟩
    try simp only [List.cons_append, List.nil_append]
    by_cases h2 : okP c d
    ·
     have e3 : codeP c d = 0 := by unfold codeP; rw [if_pos h2]
     rw [e3]
     obtain ⟨q, r, rfl, rfl, hqr, hr40⟩ := okP_nat h2
     have e4 : ovI (addP M f t) q r = ovZ (addP M f t) q r := by unfold ovI; rw [if_pos h2, Int.toNat_natCast, Int.toNat_natCast]
     rw [e4]
     obtain ⟨ho1, ho2⟩ := finds_ov (x := q) (y := r) hr'.nd hM
     have hsame : (okP (f : Int) t ∧ okP (q : Int) r ∧ (f : Int) < r ∧ (q : Int) < t) ↔ (f < r ∧ q < t) := ⟨fun h => ⟨by omega, by omega⟩, fun h => ⟨h1, h2, by omega, by omega⟩⟩
     refine LW.q rfl (Qt.move rfl) ?_
     refine LW.q rfl (Qt.extr rfl rfl) ?_
     refine LW.q rfl (Qt.extr rfl rfl) ?_
     refine LW.e rfl (Ef.alloc [.int .i64 0, .int .i64 0] (by unfold zeroB; kernel_rfl) ?_)
     intro g13
     refine LW.e0 rfl (Ef.store [_, _] (by kernel_rfl) rfl rfl rfl rfl (by simp) ?_)
     try simp only [splice, List.length_cons, List.length_nil, List.drop_succ_cons, List.cons_append, List.take_succ_cons, List.take_zero, List.drop_zero, List.nil_append, List.append_nil]
     refine LW.q rfl (Qt.assign rfl) ?_
     refine LW.done ?_
     refine T.seq ?_
     refine T.seq ?_
     refine T.region ?_
     refine LW.q rfl (Qt.move rfl) ?_
     refine LW.q rfl (Qt.neq rfl rfl) ?_
     refine LW.done ?_
     first | refine T.condF rfl ?_ | refine T.condPF rfl (by omega) ?_ | refine T.condBF rfl (by omega) ?_
     refine T.skip ?_
     refine T.cut (fun fz lz => ∃ (f0 : Fr) (n : Nat), (True) ∧ fz = (upd (upd f0 3 (pV g3)) 7 (pV g)) ∧ lz = blk g3 [.int .i64 f, .int .i64 t] 57 :: (riL g gl gu gm (addP M f t) L' U' ++ F)) ?_ ?_
     ·
      by_cases hb : f < r ∧ q < t
      ·
       obtain ⟨tl, htl⟩ := ho1 hb
       rw [htl, decide_eq_true (hsame.2 hb)]
       refine T.own fun w1 ho1 => ?_
       obtain ⟨g6, rfl⟩ := (ho1.slice_at (p := p1) (m := ((-1 : Int) :: tl).length) (c := c1) (k := ((-1 : Int) :: tl).length)).2.1 (by simp)
       clear ho1
       refine T.seq ?_
       refine T.region ?_
       refine LW.q rfl (Qt.move rfl) ?_
       refine LW.q rfl (Qt.len (e := 2) (sz := 1) (by kernel_rfl) rfl) ?_
       refine LW.q rfl (Qt.gtr rfl rfl) ?_
       refine LW.q rfl (Qt.move rfl) ?_
       first | refine LW.gT (t := 72) rfl rfl ?_ | refine LW.gT (t := 72) rfl (decide_eq_true ((by simp))) ?_ | refine LW.gT (t := 72) rfl ((by simp)) ?_
       refine LW.q rfl (Qt.move rfl) ?_
       refine LW.q rfl (Qt.index 0 (e := 2) (sz := 1) (by kernel_rfl) rfl rfl rfl (by simp)) ?_
       refine LW.q rfl (Qt.load (v := iV (-1)) (by kernel_rfl) rfl rfl) ?_
       refine LW.q rfl (Qt.eql rfl rfl) ?_
       refine LW.q rfl (Qt.pick rfl rfl) ?_
       refine LW.q rfl (Qt.move rfl) ?_
       refine LW.q rfl (Qt.neqB (by kernel_rfl) rfl rfl) ?_
       refine LW.done ?_
       first | refine T.condF rfl ?_ | refine T.condPF rfl (rfl) ?_ | refine T.condBF rfl (rfl) ?_
       refine T.skip ?_
       exact ⟨_, ⟨_, 0, trivial, (updS rfl (updS rfl rfl)), rfl⟩, Sub.any⟩
      ·
       have hnn := ho2 hb
       rw [decide_eq_false (fun k => hb (hsame.1 k))]
       obtain ⟨Z, hZ⟩ : ∃ Z, Z = ovZ (addP M f t) q r := ⟨_, rfl⟩
       rw [← hZ] at hnn ⊢
       by_cases hz : 0 < Z.length
       ·
        refine T.own fun w1 ho1 => ?_
        obtain ⟨g6, rfl⟩ := (ho1.slice_at (p := p1) (m := Z.length) (c := c1) (k := Z.length)).2.1 hz
        clear ho1
        have hz0 := hnn Z[0] (List.getElem_mem hz)
        refine T.seq ?_
        refine T.region ?_
        refine LW.q rfl (Qt.move rfl) ?_
        refine LW.q rfl (Qt.len (e := 2) (sz := 1) (by kernel_rfl) rfl) ?_
        refine LW.q rfl (Qt.gtr rfl rfl) ?_
        refine LW.q rfl (Qt.move rfl) ?_
        first | refine LW.gT (t := 72) rfl rfl ?_ | refine LW.gT (t := 72) rfl (decide_eq_true ((by omega))) ?_ | refine LW.gT (t := 72) rfl ((by omega)) ?_
        refine LW.q rfl (Qt.move rfl) ?_
        refine LW.q rfl (Qt.index 0 (e := 2) (sz := 1) (by kernel_rfl) rfl rfl rfl hz) ?_
        refine LW.q rfl (Qt.load (v := iV Z[0]) (by kernel_rfl) rfl (map_at _ _ _ hz)) ?_
        refine LW.q rfl (Qt.eql rfl rfl) ?_
        refine LW.q rfl (Qt.pick rfl rfl) ?_
        refine LW.q rfl (Qt.move rfl) ?_
        refine LW.q rfl (Qt.neqB (by kernel_rfl) rfl rfl) ?_
        refine LW.done ?_
        first | refine T.condF rfl ?_ | refine T.condPF rfl ((by simp [hz0])) ?_ | refine T.condBF rfl ((by simp [hz0])) ?_
        refine T.skip ?_
        exact ⟨_, ⟨_, 0, trivial, (updS rfl (updS rfl rfl)), rfl⟩, Sub.any⟩
       ·
        refine T.seq ?_
        refine T.region ?_
        refine LW.q rfl (Qt.move rfl) ?_
        refine LW.q rfl (Qt.len (e := 2) (sz := 1) (by kernel_rfl) rfl) ?_
        refine LW.q rfl (Qt.gtr rfl rfl) ?_
        refine LW.q rfl (Qt.move rfl) ?_
        first | refine LW.gF (t := 72) rfl rfl ?_ | refine LW.gF (t := 72) rfl (decide_eq_false ((by omega))) ?_ | refine LW.gF (t := 72) rfl ((by omega)) ?_
        refine LW.s rfl ?_
        refine LW.s rfl ?_
        refine LW.s rfl ?_
        refine LW.s rfl ?_
        refine LW.q rfl (Qt.pick rfl rfl) ?_
        refine LW.q rfl (Qt.move rfl) ?_
        refine LW.q rfl (Qt.neqB (by kernel_rfl) rfl rfl) ?_
        refine LW.done ?_
        first | refine T.condF rfl ?_ | refine T.condPF rfl ((by simp; omega)) ?_ | refine T.condBF rfl ((by simp; omega)) ?_
        refine T.skip ?_
        exact ⟨_, ⟨_, 0, trivial, (updS rfl (updS rfl rfl)), rfl⟩, Sub.any⟩
     rintro fz lz ⟨f0, n, _, rfl, rfl⟩
     try simp only [List.cons_append, List.nil_append]
     refine T.seq ?_
     refine T.seq ?_
     refine T.region ?_
     refine LW.q rfl (Qt.fieldAddr0 (by kernel_rfl) rfl) ?_
     first | refine LW.q rfl (Qt.load (by kernel_rfl) rfl rfl) ?_ | refine LW.q rfl (Qt.load (by kernel_rfl) rfl (map_at _ _ _ (by omega))) ?_ | refine LW.q rfl (Qt.load (by kernel_rfl) rfl (flat_cell0 _ _ _ (by intros; rfl) _ (by omega) (by rfl))) ?_ | refine LW.q rfl (Qt.load (by kernel_rfl) rfl (flat_cell _ _ _ (by intros; rfl) _ _ (by omega) (by rfl))) ?_ | refine LW.q rfl (Qt.load (by kernel_rfl) rfl (bytes_at _ _ (by omega))) ?_
     refine LW.q rfl (Qt.fieldAddr (off := 1) (by kernel_rfl) rfl) ?_
     first | refine LW.q rfl (Qt.load (by kernel_rfl) rfl rfl) ?_ | refine LW.q rfl (Qt.load (by kernel_rfl) rfl (map_at _ _ _ (by omega))) ?_ | refine LW.q rfl (Qt.load (by kernel_rfl) rfl (flat_cell0 _ _ _ (by intros; rfl) _ (by omega) (by rfl))) ?_ | refine LW.q rfl (Qt.load (by kernel_rfl) rfl (flat_cell _ _ _ (by intros; rfl) _ _ (by omega) (by rfl))) ?_ | refine LW.q rfl (Qt.load (by kernel_rfl) rfl (bytes_at _ _ (by omega))) ?_
     refine LW.q rfl (Qt.sub (r := ((t - 1 : Nat) : Int)) rfl rfl (by rw [wr64 (by omega) (by omega)]; omega)) ?_
     refine LW.e rfl (Ef.lit [_, _] (e := 2) (by kernel_rfl) (by kernel_rfl) rfl (by simp [Value.cells]) rfl (by omega) (by omega) ?_)
     intro g85
     refine LW.q rfl (Qt.len (e := 2) (sz := 1) (by kernel_rfl) rfl) ?_
     refine LW.q rfl (Qt.move rfl) ?_
     refine LW.done ?_
     refine T.block ?_
     refine T.loop (fun mz fz lz => ∃ (f0 : Fr) (i : Nat), (i ≤ 2) ∧ mz = 2 - i ∧ fz = (upd (upd (upd (upd f0 7 (pV g)) 85 (.slice (some ⟨g85, 0, none⟩) 2 2)) 86 (.int .i64 2)) 87 (.int .i64 i)) ∧ lz = blk g85 [.int .i64 f, .int .i64 (t - 1 : Nat)] 2 :: (riL g gl gu gm (addP M f t) L' U' ++ F)) ?_ ?_
     · refine ⟨_, _, ⟨_, 0, Nat.zero_le _, rfl, (updS rfl (updS rfl (updS rfl (updS rfl rfl)))), rfl⟩, Sub.any⟩
     ·
      rintro mz fz lz ⟨f0, i, hi2, hmz, rfl, rfl⟩
      subst mz
      try simp only [List.cons_append, List.nil_append]
      refine T.seq ?_
      refine T.region ?_
      refine LW.q rfl (Qt.lss rfl rfl) ?_
      refine LW.done ?_
      refine T.seq ?_
      refine T.condP rfl (fun hlt2 => ?_) (fun hlt2 => ?_)
      ·
       have hlt2' : i < 2 := by omega
       obtain ⟨e, he, hel, het, hfe⟩ : ∃ e : Nat, ([Value.int .i64 f, Value.int .i64 (t - 1 : Nat)])[i]? = some (.int .i64 e) ∧ f < e + 1 ∧ e < t ∧ e < 1099511627776 := by rcases (by omega : i = 0 ∨ i = 1) with rfl | rfl; exact ⟨f, rfl, by omega, hft, by omega⟩; exact ⟨t - 1, rfl, by omega, by omega, by omega⟩
       obtain ⟨tl, htl⟩ := (finds_ov (x := e) (y := e + 1) hr'.nd hM).1 ⟨hel, het⟩
       have e5 : stI (addP M f t) (e : Int) = (-1) :: tl := by unfold stI; rw [if_pos ⟨by omega, by omega⟩, Int.toNat_natCast]; exact htl
       have e6 : codeS (e : Int) = 0 := by unfold codeS; rw [if_pos ⟨by omega, by omega⟩]
       refine T.skip ?_
       refine T.seq ?_
       refine T.block ?_
       refine T.seq ?_
       refine T.region ?_
       refine LW.q rfl (Qt.index i (e := 2) (sz := 1) (by kernel_rfl) rfl rfl rfl hlt2') ?_
       refine LW.q rfl (Qt.load (v := .int .i64 e) (by kernel_rfl) rfl (by rw [Nat.zero_add, Nat.mul_one]; exact he)) ?_
       refine LW.q rfl (Qt.assign rfl) ?_
       refine LW.done ?_
       refine T.seq ?_
       refine T.region ?_
       refine LW.q rfl (Qt.move rfl) ?_
       refine LW.q rfl (Qt.move rfl) ?_
       refine LW.e rfl (Ef.call (Ri.stabA B g gl gu gm (addP M f t) L' U' _ hr' (by omega) e) Try.func41 rfl rfl rfl ?_)
       rintro _ _ ⟨p3, c3, rfl, rfl⟩
       try simp only [List.cons_append, List.nil_append]
       rw [e5, e6]
       refine LW.own fun w1 ho1 => ?_
       obtain ⟨g6, rfl⟩ := (ho1.slice_at (p := p3) (m := ((-1 : Int) :: tl).length) (c := c3) (k := ((-1 : Int) :: tl).length)).2.1 (by simp)
       clear ho1
       refine LW.q rfl (Qt.move rfl) ?_
       refine LW.q rfl (Qt.extr rfl rfl) ?_
       refine LW.q rfl (Qt.extr rfl rfl) ?_
       refine LW.q rfl (Qt.assign rfl) ?_
       refine LW.q rfl (Qt.assign rfl) ?_
       refine LW.done ?_
       refine T.seq ?_
       refine T.region ?_
       refine LW.q rfl (Qt.move rfl) ?_
       refine LW.q rfl (Qt.neq rfl rfl) ?_
       refine LW.q rfl (Qt.move rfl) ?_
       first | refine LW.gF (t := 99) rfl rfl ?_ | refine LW.gF (t := 99) rfl (decide_eq_false (by omega)) ?_ | refine LW.gF (t := 99) rfl (by omega) ?_
       refine LW.q rfl (Qt.move rfl) ?_
       refine LW.q rfl (Qt.len (e := 2) (sz := 1) (by kernel_rfl) rfl) ?_
       refine LW.q rfl (Qt.eql rfl rfl) ?_
       refine LW.q rfl (Qt.pick rfl rfl) ?_
       refine LW.q rfl (Qt.move rfl) ?_
       first | refine LW.gF (t := 104) rfl rfl ?_ | refine LW.gF (t := 104) rfl (decide_eq_false ((by simp; omega))) ?_ | refine LW.gF (t := 104) rfl ((by simp; omega)) ?_
       refine LW.q rfl (Qt.move rfl) ?_
       refine LW.q rfl (Qt.index 0 (e := 2) (sz := 1) (by kernel_rfl) rfl rfl rfl (by simp)) ?_
       refine LW.q rfl (Qt.load (v := iV (-1)) (by kernel_rfl) rfl rfl) ?_
       refine LW.q rfl (Qt.neq rfl rfl) ?_
       refine LW.q rfl (Qt.pick rfl rfl) ?_
       refine LW.done ?_
       first | refine T.condF rfl ?_ | refine T.condPF rfl (rfl) ?_ | refine T.condBF rfl (rfl) ?_
       refine T.skip ?_
       refine T.region ?_
       refine LW.q rfl (Qt.add rfl rfl (wr64 (by omega) (by omega))) ?_
       refine LW.q rfl (Qt.move rfl) ?_
       refine LW.done ?_
       refine ⟨_, ?_, _, ⟨_, i + 1, by omega, rfl, (updS rfl (updS rfl (updS rfl (updS rfl rfl)))), rfl⟩, Sub.any⟩
       first | omega | (simp; omega)
      ·
       have e7 : lookM (addP M f t) (-1 : Int) = some (f, t) := by rw [look_snoc, hln]; rfl
       have e8 : cutCode (addP M f t) (-1 : Int) = 0 := by unfold cutCode; rw [e7]; rfl
       have e9 : cutCode (cutM (addP M f t) (-1 : Int)) (-1 : Int) = 4 := by unfold cutCode; rw [look_cut]; rfl
       refine T.exit ?_
       refine T.seq ?_
       refine T.region ?_
       refine LW.q rfl (Qt.move rfl) ?_
       refine LW.e rfl (Ef.call (Ri.cutA B g gl gu gm (addP M f t) L' U' _ hr' (by omega) (-1)) Try.func40 rfl rfl rfl ?_)
       rintro _ _ ⟨L2, U2, hr2, rfl, rfl⟩
       try simp only [List.cons_append, List.nil_append]
       rw [e8]
       refine LW.q rfl (Qt.eql rfl rfl) ?_
       refine LW.q rfl (Qt.move rfl) ?_
       first | refine LW.gT (t := 114) rfl rfl ?_ | refine LW.gT (t := 114) rfl (decide_eq_true (by omega)) ?_ | refine LW.gT (t := 114) rfl (by omega) ?_
       refine LW.q rfl (Qt.move rfl) ?_
       refine LW.e rfl (Ef.call (Ri.cutA B g gl gu gm (cutM (addP M f t) (-1)) L2 U2 _ hr2 (by omega) (-1)) Try.func40 rfl rfl rfl ?_)
       rintro _ _ ⟨L3, U3, hr3, rfl, rfl⟩
       try simp only [List.cons_append, List.nil_append]
       rw [e9]
       refine LW.q rfl (Qt.eql rfl rfl) ?_
       refine LW.q rfl (Qt.pick rfl rfl) ?_
       refine LW.q rfl (Qt.assign rfl) ?_
       refine LW.done ?_
       refine T.ret ?_
       exact ⟨.inl rfl, _, _, res [_] rfl ⟨rvT rfl, trivial⟩, ⟨rfl, rfl⟩, Sub.any⟩
    ·
     have e3 : codeP c d = 40 := by unfold codeP; rw [if_neg h2]
     have e4 : ovI (addP M f t) c d = [] := by unfold ovI; rw [if_neg h2]
     rw [e3, e4]
     refine LW.q rfl (Qt.move rfl) ?_
     refine LW.q rfl (Qt.extr rfl rfl) ?_
     refine LW.q rfl (Qt.extr rfl rfl) ?_
     refine LW.e rfl (Ef.alloc [.int .i64 0, .int .i64 0] (by unfold zeroB; kernel_rfl) ?_)
     intro g13
     refine LW.e0 rfl (Ef.store [_, _] (by kernel_rfl) rfl rfl rfl rfl (by simp) ?_)
     try simp only [splice, List.length_cons, List.length_nil, List.drop_succ_cons, List.cons_append, List.take_succ_cons, List.take_zero, List.drop_zero, List.nil_append, List.append_nil]
     refine LW.q rfl (Qt.assign rfl) ?_
     refine LW.done ?_
     refine T.seq ?_
     refine T.seq ?_
     refine T.region ?_
     refine LW.q rfl (Qt.move rfl) ?_
     refine LW.q rfl (Qt.neq rfl rfl) ?_
     refine LW.done ?_
     first | refine T.condT rfl ?_ | refine T.condPT rfl (by omega) ?_ | refine T.condBT rfl (by omega) ?_
     refine T.seq ?_
     refine T.region ?_
     first | refine LW.q rfl (Qt.loadAgg [_, _] (by kernel_rfl) rfl ⟨rfl, rfl, trivial⟩) ?_ | refine LW.q rfl (Qt.loadAgg [_, _] (by kernel_rfl) rfl (by exact rdl_flat _ _ _ (by intros; rfl) _ (by omega))) ?_
     refine LW.e rfl (Ef.call (Ri.checkNo B c d h2) Try.func36 rfl rfl rfl ?_)
     rintro _ _ ⟨rfl, rfl⟩
     try simp only [List.cons_append, List.nil_append]
     refine LW.q rfl (Qt.neq rfl rfl) ?_
     refine LW.q rfl (Qt.move rfl) ?_
     first | refine LW.gT (t := 64) rfl rfl ?_ | refine LW.gT (t := 64) rfl (decide_eq_true (by omega)) ?_ | refine LW.gT (t := 64) rfl (by omega) ?_
     refine LW.q rfl (Qt.move rfl) ?_
     refine LW.q rfl (Qt.len (e := 2) (sz := 1) (by kernel_rfl) rfl) ?_
     refine LW.q rfl (Qt.eql rfl rfl) ?_
     refine LW.q rfl (Qt.pick rfl rfl) ?_
     refine LW.q rfl (Qt.assign rfl) ?_
     refine LW.done ?_
     refine T.ret ?_
     exact ⟨.inl rfl, _, _, res [_] rfl ⟨rvT rfl, trivial⟩, ⟨rfl, rfl⟩, Sub.any⟩
   ·
    have e1 : addCode M (-1) a b = 40 := by unfold addCode; rw [if_neg h1]
    rw [e1]
    refine LW.q rfl (Qt.assign rfl) ?_
    refine LW.done ?_
    refine T.seq ?_
    refine T.seq ?_
    refine T.region ?_
    refine LW.q rfl (Qt.move rfl) ?_
    refine LW.q rfl (Qt.neq rfl rfl) ?_
    refine LW.done ?_
    first | refine T.condT rfl ?_ | refine T.condPT rfl (by omega) ?_ | refine T.condBT rfl (by omega) ?_
    refine T.seq ?_
    refine T.region ?_
    refine LW.q rfl (Qt.move rfl) ?_
    refine LW.q rfl (Qt.eql rfl rfl) ?_
    refine LW.q rfl (Qt.move rfl) ?_
    first | refine LW.gT (t := 42) rfl rfl ?_ | refine LW.gT (t := 42) rfl (decide_eq_true (by omega)) ?_ | refine LW.gT (t := 42) rfl (by omega) ?_
    first | refine LW.q rfl (Qt.loadAgg [_, _] (by kernel_rfl) rfl ⟨rfl, rfl, trivial⟩) ?_ | refine LW.q rfl (Qt.loadAgg [_, _] (by kernel_rfl) rfl (by exact rdl_flat _ _ _ (by intros; rfl) _ (by omega))) ?_
    refine LW.e rfl (Ef.call (Ri.checkNo B a b h1) Try.func36 rfl rfl rfl ?_)
    rintro _ _ ⟨rfl, rfl⟩
    try simp only [List.cons_append, List.nil_append]
    refine LW.q rfl (Qt.neq rfl rfl) ?_
    refine LW.q rfl (Qt.pick rfl rfl) ?_
    refine LW.q rfl (Qt.assign rfl) ?_
    refine LW.done ?_
    refine T.ret ?_
    exact ⟨.inl rfl, _, _, res [_] rfl ⟨rvT rfl, trivial⟩, ⟨rfl, rfl⟩, Sub.any⟩
end Go.Proofs.Ytefognjcognknaa

/- The laws of ritree: RitreeAll. Conditions: that the periods can be read; sizes. -/
set_option linter.unusedSimpArgs false
set_option linter.unusedVariables false
namespace Go.Proofs.Ytefognjcognknaa
open Go.RowKit
abbrev bV (b : Bool) : Value := .bool b
theorem Ri.okB : MapOk Try.prog 76 iV (.bool false) := MapOk.mk3 2 4 (.int .i64) Try.underlying76 Try.underlying2 (fun _ => rfl) (by kernel_rfl) i64_inj
theorem all_time {M : List PE} {L U : List KV} {N : Nat} (h : RiOk M L U N) : (ovI M 0 1099511627776).length = M.length := by
  have hok : okP 0 1099511627776 := ⟨by omega, by omega, by omega⟩
  unfold ovI
  rw [if_pos hok]
  have hf : (M.filter fun e => decide (e.2.1 < (1099511627776 : Int).toNat ∧ (0 : Int).toNat < e.2.2)) = M := List.filter_eq_self.2 fun e he => by
    obtain ⟨_, _, k1, k2⟩ := h.ok e he
    simp; omega
  have hnd : ((M.filter fun e => decide (e.2.1 < (1099511627776 : Int).toNat ∧ (0 : Int).toNat < e.2.2)).map (·.1)).Nodup := h.nd.sublist (List.filter_sublist.map _)
  have := (all_spec hnd).2.2
  unfold ovZ
  rw [this, hf, List.length_map]
theorem nd_rise {l : List Int} (h : RiseZ l) : l.Nodup := h.imp fun hlt e => by omega
theorem all_split {M : List PE} {L U : List KV} {N : Nat} (h : RiOk M L U N) {f c t : Nat} (h1 : f < c) (h2 : c < t) (x : Int) : x ∈ ovZ M f t ↔ x ∈ ovZ M f c ++ ovZ M c t := by
  rw [List.mem_append, (ov_spec h.nd f t).2, (ov_spec h.nd f c).2, (ov_spec h.nd c t).2]
  constructor
  · rintro ⟨e, he, rfl, hq⟩
    obtain ⟨_, _, k1, k2⟩ := h.ok e he
    by_cases h3 : e.2.1 < c
    · exact .inl ⟨e, he, rfl, h3, hq.2⟩
    · exact .inr ⟨e, he, rfl, hq.1, by omega⟩
  · rintro (⟨e, he, rfl, hq⟩ | ⟨e, he, rfl, hq⟩)
    · exact ⟨e, he, rfl, by omega, hq.2⟩
    · exact ⟨e, he, rfl, hq.1, by omega⟩
/-- What the set holds behind so many numbers. -/
structure SetOk (S : List (Int × Bool)) (l : List Int) : Prop where
  nd : (S.map (·.1)).Nodup
  mem : ∀ k, k ∈ S.map (·.1) ↔ k ∈ l
  all : ∀ p ∈ S, p.2 = true
theorem SetOk.put {S : List (Int × Bool)} {l : List Int} (h : SetOk S l) (k : Int) : SetOk (putM S k true) (l ++ [k]) := by
  cases hl : lookM S k with
  | none =>
    rw [putM_new hl]
    have hn := lookL_none_mem hl
    refine ⟨?_, fun x => ?_, fun p hp => ?_⟩
    · rw [List.map_append]
      refine List.pairwise_append.2 ⟨h.nd, by simp, fun a ha b hb => ?_⟩
      obtain rfl : b = k := by simpa using hb
      obtain ⟨p, hp, rfl⟩ := List.mem_map.1 ha
      exact hn p hp
    · rw [List.map_append, List.mem_append, List.mem_append, h.mem]; simp
    · rcases List.mem_append.1 hp with hp | hp
      · exact h.all p hp
      · rw [List.mem_singleton.1 hp]
  | some v =>
    have hm := lookL_mem hl
    have hsame : ∀ (S : List (Int × Bool)), (∀ p ∈ S, p.2 = true) → lookM S k = some v → putM S k true = S := by
      intro S
      induction S with
      | nil => intro _ h; cases h
      | cons p S ih =>
        intro ha hl
        unfold lookM at hl
        unfold putM
        split
        · rename_i e
          have := ha p (List.mem_cons_self ..)
          obtain ⟨p1, p2⟩ := p
          simp only at e this
          subst e; subst this; rfl
        · rename_i e
          rw [if_neg e] at hl
          rw [ih (fun q hq => ha q (List.mem_cons_of_mem _ hq)) hl]
    rw [hsame S h.all hl]
    refine ⟨h.nd, fun x => ?_, h.all⟩
    rw [h.mem, List.mem_append]
    constructor
    · exact .inl
    · rintro (hx | hx)
      · exact hx
      · rw [List.mem_singleton.1 hx, ← h.mem]; exact List.mem_map_of_mem (f := fun q : Int × Bool => q.1) hm
theorem SetOk.look {S : List (Int × Bool)} {l : List Int} (h : SetOk S l) {k : Int} (hk : k ∈ l) : (lookM S k).getD false = true := by
  cases hl : lookM S k with
  | none =>
    obtain ⟨p, hp, he⟩ := List.mem_map.1 ((h.mem k).2 hk)
    exact absurd he (lookL_none_mem hl p hp)
  | some v => exact h.all _ (lookL_mem hl)
theorem SetOk.len {S : List (Int × Bool)} {l l' : List Int} (h : SetOk S l) (hn : l'.Nodup) (hm : ∀ x, x ∈ l' ↔ x ∈ l) : S.length = l'.length := by
  have := (List.perm_ext_iff_of_nodup h.nd hn).2 fun x => by rw [h.mem, hm]
  have := this.length_eq
  rw [List.length_map] at this
  exact this
theorem addM_len {M : List PE} {id f t : Int} : (addM M id f t).length = M.length + (if addCode M id f t = 0 then 1 else 0) := by
  unfold addM addCode
  by_cases h : okP f t
  · cases hl : lookM M id with
    | none => rw [if_pos ⟨h, rfl⟩, if_pos h]; simp
    | some v => rw [if_neg (fun k => by cases k.2), if_pos h]; simp
  · rw [if_neg (fun k => h k.1), if_neg h]; simp
theorem ovI_len {M : List PE} {L U : List KV} {N : Nat} (h : RiOk M L U N) (f t : Int) : (ovI M f t).length ≤ N := by
  unfold ovI
  split
  · have hnd : ((M.filter fun e => decide (e.2.1 < t.toNat ∧ f.toNat < e.2.2)).map (·.1)).Nodup := h.nd.sublist (List.filter_sublist.map _)
    have h1 := (all_spec hnd).2.2
    unfold ovZ
    rw [h1, List.length_map]
    exact Nat.le_trans (List.length_filter_le _ _) h.lenM
  · simp
set_option maxHeartbeats 8000000 in
set_option maxRecDepth 100000 in
theorem Ri.all (B : Base) (v : Value) (xs : List (Int × Int)) (a b cut : Int) (hv : RoLPd B v xs) (hn : xs.length < 2 ^ 30) : Fn Try.prog B 8 #[v, pdV a b, .int .i64 cut] [] (fun u l => u = .bool true ∧ l = []) := by
 obtain ⟨sa, scap, rfl, hsc⟩ := hv
 refine Fn.enter3 131 Try.func8 rfl rfl (Nat.le_of_ble_eq_true rfl) (fun F => ?_)
 try simp only [List.cons_append, List.nil_append]
 refine T.seq ?_
 refine T.region ?_
 refine LW.e rfl (Ef.box [_, _] rfl rfl ?_)
 intro g4
 refine LW.q rfl (Qt.assign rfl) ?_
 refine LW.done ?_
 refine T.seq ?_
 refine T.seq ?_
 refine T.region ?_
 refine LW.e rfl (Ef.call (Ri.awake B) Try.func26 rfl rfl rfl ?_)
 rintro _ _ ⟨rfl, rfl⟩
 try simp only [List.cons_append, List.nil_append]
 first | refine LW.q rfl (Qt.notP rfl) ?_ | refine LW.q rfl (Qt.notB rfl) ?_
 refine LW.done ?_
 first | refine T.condF rfl ?_ | refine T.condPF rfl (by omega) ?_ | refine T.condBF rfl (by omega) ?_
 refine T.skip ?_
 refine T.seq ?_
 refine T.region ?_
 refine LW.e rfl (Ef.call (Ri.new B) Try.func32 rfl rfl rfl ?_)
 rintro _ _ ⟨g, gl, gu, gm, rfl, rfl⟩
 try simp only [List.cons_append, List.nil_append]
 refine LW.q rfl (Qt.assign rfl) ?_
 refine LW.done ?_
 refine T.seq ?_
 refine T.region ?_
 refine LW.q rfl (Qt.assign rfl) ?_
 refine LW.done ?_
 refine T.seq ?_
 refine T.seq ?_
 refine T.region ?_
 refine LW.q rfl (Qt.move rfl) ?_
 refine LW.q rfl (Qt.len (e := 57) (sz := 2) (by kernel_rfl) rfl) ?_
 refine LW.q rfl (Qt.move rfl) ?_
 refine LW.done ?_
 refine T.block ?_
 refine T.loop (fun mz fz lz => ∃ (f0 : Fr) (i : Nat) (M : List PE) (L U : List KV), (i ≤ xs.length ∧ (∀ e ∈ M, e.1 < i) ∧ RiOk M L U i) ∧ mz = xs.length - i ∧ fz = (upd (upd (upd (upd (upd (upd (upd f0 2 (.int .i64 cut)) 4 (pV g4)) 7 (pV g)) 8 (.int .i64 M.length)) 27 (.slice sa xs.length scap)) 28 (.int .i64 xs.length)) 29 (.int .i64 i)) ∧ lz = blk g4 [.int .i64 a, .int .i64 b] 57 :: (riL g gl gu gm M L U ++ F)) ?_ ?_
 · refine ⟨_, _, ⟨_, 0, [], [], [], ⟨Nat.zero_le _, (fun _ h => nomatch h), RiOk.nil⟩, rfl, (updS rfl (updS rfl (updS rfl (updS rfl (updS rfl (updS rfl (updS rfl rfl))))))), rfl⟩, Sub.any⟩
 ·
  rintro mz fz lz ⟨f0, i, M, L, U, ⟨hi, hM, hr⟩, hmz, rfl, rfl⟩
  subst mz
  try simp only [List.cons_append, List.nil_append]
  refine T.seq ?_
  refine T.region ?_
  refine LW.q rfl (Qt.lss rfl rfl) ?_
  refine LW.done ?_
  refine T.seq ?_
  refine T.condP rfl (fun hil => ?_) (fun hil => ?_)
  ·
   have hil' : i < xs.length := by omega
   obtain ⟨kb, ko, C, rfl, hro, hC⟩ := hsc.resolve_left (by intro e; rw [e] at hil'; simp at hil')
   have hrd := hC i hil'
   have hlm := hr.lenM
   have hal := addM_len (M := M) (id := (i : Int)) (f := xs[i].1) (t := xs[i].2)
   refine T.skip ?_
   refine T.seq ?_
   refine T.block ?_
   refine T.seq ?_
   refine T.region ?_
   refine LW.q rfl (Qt.move rfl) ?_
   refine LW.q rfl (Qt.index i (e := 57) (sz := 2) (by kernel_rfl) rfl rfl rfl hil') ?_
   refine LW.q rfl (Qt.loadAgg [_, _] (by kernel_rfl) rfl hrd) ?_
   refine LW.e rfl (Ef.alloc [.int .i64 0, .int .i64 0] (by unfold zeroB; kernel_rfl) ?_)
   intro g10
   refine LW.q rfl (Qt.assign rfl) ?_
   refine LW.e0 rfl (Ef.store [_, _] (by kernel_rfl) rfl rfl rfl rfl (by simp) ?_)
   try simp only [splice, List.length_cons, List.length_nil, List.drop_succ_cons, List.cons_append, List.take_succ_cons, List.take_zero, List.drop_zero, List.nil_append, List.append_nil]
   refine LW.done ?_
   refine T.seq ?_
   refine T.region ?_
   refine LW.q rfl (Qt.move rfl) ?_
   refine LW.q rfl (Qt.move rfl) ?_
   first | refine LW.q rfl (Qt.loadAgg [_, _] (by kernel_rfl) rfl ⟨rfl, rfl, trivial⟩) ?_ | refine LW.q rfl (Qt.loadAgg [_, _] (by kernel_rfl) rfl (by exact rdl_flat _ _ _ (by intros; rfl) _ (by omega))) ?_
   refine LW.e rfl (Ef.call (Ri.addA B g gl gu gm M L U i hr (by omega) (i : Int) xs[i].1 xs[i].2 (by unfold minI; omega) (by omega)) Try.func33 rfl rfl rfl ?_)
   rintro _ _ ⟨L', U', hr', rfl, rfl⟩
   try simp only [List.cons_append, List.nil_append]
   by_cases hc0 : addCode M (i : Int) xs[i].1 xs[i].2 = 0
   ·
    rw [if_pos hc0] at hal
    refine LW.q rfl (Qt.eql rfl rfl) ?_
    refine LW.done ?_
    first | refine T.condT rfl ?_ | refine T.condPT rfl (by omega) ?_ | refine T.condBT rfl (by omega) ?_
    refine T.region ?_
    refine LW.q rfl (Qt.move rfl) ?_
    refine LW.q rfl (Qt.add (r := ((addM M (i : Int) xs[i].1 xs[i].2).length : Int)) rfl rfl (by rw [wr64 (by omega) (by omega), hal]; omega)) ?_
    refine LW.q rfl (Qt.assign rfl) ?_
    refine LW.done ?_
    refine T.region ?_
    refine LW.q rfl (Qt.add rfl rfl (wr64 (by omega) (by omega))) ?_
    refine LW.q rfl (Qt.move rfl) ?_
    refine LW.done ?_
    refine ⟨_, ?_, _, ⟨_, i + 1, addM M (i : Int) xs[i].1 xs[i].2, L', U', ⟨by omega, fun e he => by rcases mem_addM he with h | h; have := hM e h; omega; omega, hr'⟩, rfl, (updS rfl (updS rfl (updS rfl (updS rfl (updS rfl (updS rfl (updS rfl rfl))))))), rfl⟩, Sub.any⟩
    first | omega | (simp; omega)
   ·
    rw [if_neg hc0, Nat.add_zero] at hal
    rw [show (M.length : Int) = ((addM M (i : Int) xs[i].1 xs[i].2).length : Int) by rw [hal]]
    refine LW.q rfl (Qt.eql rfl rfl) ?_
    refine LW.done ?_
    first | refine T.condF rfl ?_ | refine T.condPF rfl (by omega) ?_ | refine T.condBF rfl (by omega) ?_
    refine T.skip ?_
    refine T.region ?_
    refine LW.q rfl (Qt.add rfl rfl (wr64 (by omega) (by omega))) ?_
    refine LW.q rfl (Qt.move rfl) ?_
    refine LW.done ?_
    refine ⟨_, ?_, _, ⟨_, i + 1, addM M (i : Int) xs[i].1 xs[i].2, L', U', ⟨by omega, fun e he => by rcases mem_addM he with h | h; have := hM e h; omega; omega, hr'⟩, rfl, (updS rfl (updS rfl (updS rfl (updS rfl (updS rfl (updS rfl (updS rfl rfl))))))), rfl⟩, Sub.any⟩
    first | omega | (simp; omega)
  ·
   have hall := all_time hr
   refine T.exit ?_
   refine T.seq ?_
   refine T.region ?_
   refine LW.q rfl (Qt.move rfl) ?_
   refine LW.q rfl (Qt.build [(0, 1), (1, 1)] [.int .i64 0, .int .i64 0] [_, _] [(1, _)] (by kernel_rfl) (by unfold zeroB; kernel_rfl) rfl rfl) ?_
   refine LW.e rfl (Ef.call (Ri.overA B g gl gu gm M L U i hr (by omega) 0 1099511627776) Try.func34 rfl rfl rfl ?_)
   rintro _ _ ⟨p1, c1, rfl, rfl⟩
   try simp only [List.cons_append, List.nil_append]
   rw [hall, show codeP 0 1099511627776 = 0 from rfl]
   refine LW.q rfl (Qt.move rfl) ?_
   refine LW.q rfl (Qt.extr rfl rfl) ?_
   refine LW.q rfl (Qt.extr rfl rfl) ?_
   refine LW.q rfl (Qt.assign rfl) ?_
   refine LW.q rfl (Qt.assign rfl) ?_
   refine LW.done ?_
   refine T.seq ?_
   refine T.seq ?_
   refine T.region ?_
   refine LW.q rfl (Qt.move rfl) ?_
   refine LW.q rfl (Qt.neq rfl rfl) ?_
   refine LW.q rfl (Qt.move rfl) ?_
   first | refine LW.gF (t := 50) rfl rfl ?_ | refine LW.gF (t := 50) rfl (decide_eq_false (by omega)) ?_ | refine LW.gF (t := 50) rfl (by omega) ?_
   refine LW.q rfl (Qt.move rfl) ?_
   refine LW.q rfl (Qt.len (e := 2) (sz := 1) (by kernel_rfl) rfl) ?_
   refine LW.q rfl (Qt.move rfl) ?_
   refine LW.q rfl (Qt.neq rfl rfl) ?_
   refine LW.q rfl (Qt.pick rfl rfl) ?_
   refine LW.q rfl (Qt.move rfl) ?_
   first | refine LW.gF (t := 56) rfl rfl ?_ | refine LW.gF (t := 56) rfl (decide_eq_false ((by simp))) ?_ | refine LW.gF (t := 56) rfl ((by simp)) ?_
   refine LW.q rfl (Qt.move rfl) ?_
   refine LW.e rfl (Ef.call (Ri.len B g gl gu gm M L U) Try.func35 rfl rfl rfl ?_)
   rintro _ _ ⟨rfl, rfl⟩
   try simp only [List.cons_append, List.nil_append]
   refine LW.q rfl (Qt.move rfl) ?_
   refine LW.q rfl (Qt.neq rfl rfl) ?_
   refine LW.q rfl (Qt.pick rfl rfl) ?_
   refine LW.done ?_
   first | refine T.condF rfl ?_ | refine T.condPF rfl ((by simp)) ?_ | refine T.condBF rfl ((by simp)) ?_
   refine T.skip ?_
   refine T.seq ?_
   refine T.seq ?_
   refine T.region ?_
   first | refine LW.q rfl (Qt.loadAgg [_, _] (by kernel_rfl) rfl ⟨rfl, rfl, trivial⟩) ?_ | refine LW.q rfl (Qt.loadAgg [_, _] (by kernel_rfl) rfl (by exact rdl_flat _ _ _ (by intros; rfl) _ (by omega))) ?_
   refine LW.e rfl (Ef.call (Ri.checkA B a b) Try.func36 rfl rfl rfl ?_)
   rintro _ _ ⟨rfl, rfl⟩
   try simp only [List.cons_append, List.nil_append]
   by_cases h1 : okP a b
   ·
    rw [show codeP a b = 0 by unfold codeP; rw [if_pos h1]]
    refine LW.q rfl (Qt.neq rfl rfl) ?_
    refine LW.q rfl (Qt.move rfl) ?_
    first | refine LW.gF (t := 65) rfl rfl ?_ | refine LW.gF (t := 65) rfl (decide_eq_false (by omega)) ?_ | refine LW.gF (t := 65) rfl (by omega) ?_
    refine LW.q rfl (Qt.move rfl) ?_
    refine LW.q rfl (Qt.fieldAddr0 (by kernel_rfl) rfl) ?_
    first | refine LW.q rfl (Qt.load (by kernel_rfl) rfl rfl) ?_ | refine LW.q rfl (Qt.load (by kernel_rfl) rfl (map_at _ _ _ (by omega))) ?_ | refine LW.q rfl (Qt.load (by kernel_rfl) rfl (flat_cell0 _ _ _ (by intros; rfl) _ (by omega) (by rfl))) ?_ | refine LW.q rfl (Qt.load (by kernel_rfl) rfl (flat_cell _ _ _ (by intros; rfl) _ _ (by omega) (by rfl))) ?_ | refine LW.q rfl (Qt.load (by kernel_rfl) rfl (bytes_at _ _ (by omega))) ?_
    refine LW.q rfl (Qt.leq rfl rfl) ?_
    refine LW.q rfl (Qt.pick rfl rfl) ?_
    refine LW.q rfl (Qt.move rfl) ?_
    by_cases h2 : cut ≤ a
    ·
     first | refine LW.gT (t := 71) rfl rfl ?_ | refine LW.gT (t := 71) rfl (decide_eq_true (by omega)) ?_ | refine LW.gT (t := 71) rfl (by omega) ?_
     refine LW.s rfl ?_
     refine LW.s rfl ?_
     refine LW.s rfl ?_
     refine LW.s rfl ?_
     refine LW.q rfl (Qt.pick rfl rfl) ?_
     refine LW.done ?_
     first | refine T.condT rfl ?_ | refine T.condPT rfl (by omega) ?_ | refine T.condBT rfl (by omega) ?_
     refine T.seq ?_
     refine T.region ?_
     refine LW.q rfl (Qt.assign rfl) ?_
     refine LW.done ?_
     refine T.ret ?_
     exact ⟨.inl rfl, _, _, res [_] rfl ⟨rvT rfl, trivial⟩, ⟨rfl, rfl⟩, Sub.any⟩
    ·
     first | refine LW.gF (t := 71) rfl rfl ?_ | refine LW.gF (t := 71) rfl (decide_eq_false (by omega)) ?_ | refine LW.gF (t := 71) rfl (by omega) ?_
     refine LW.q rfl (Qt.move rfl) ?_
     refine LW.q rfl (Qt.fieldAddr (off := 1) (by kernel_rfl) rfl) ?_
     first | refine LW.q rfl (Qt.load (by kernel_rfl) rfl rfl) ?_ | refine LW.q rfl (Qt.load (by kernel_rfl) rfl (map_at _ _ _ (by omega))) ?_ | refine LW.q rfl (Qt.load (by kernel_rfl) rfl (flat_cell0 _ _ _ (by intros; rfl) _ (by omega) (by rfl))) ?_ | refine LW.q rfl (Qt.load (by kernel_rfl) rfl (flat_cell _ _ _ (by intros; rfl) _ _ (by omega) (by rfl))) ?_ | refine LW.q rfl (Qt.load (by kernel_rfl) rfl (bytes_at _ _ (by omega))) ?_
     refine LW.q rfl (Qt.geq rfl rfl) ?_
     refine LW.q rfl (Qt.pick rfl rfl) ?_
     refine LW.done ?_
     by_cases h3 : b ≤ cut
     ·
      first | refine T.condT rfl ?_ | refine T.condPT rfl (by omega) ?_ | refine T.condBT rfl (by omega) ?_
      refine T.seq ?_
      refine T.region ?_
      refine LW.q rfl (Qt.assign rfl) ?_
      refine LW.done ?_
      refine T.ret ?_
      exact ⟨.inl rfl, _, _, res [_] rfl ⟨rvT rfl, trivial⟩, ⟨rfl, rfl⟩, Sub.any⟩
     ·
      first | refine T.condF rfl ?_ | refine T.condPF rfl (by omega) ?_ | refine T.condBF rfl (by omega) ?_
      obtain ⟨f, t, rfl, rfl, hft, ht⟩ := okP_nat h1
      obtain ⟨c, rfl⟩ : ∃ c : Nat, cut = c := ⟨cut.toNat, by omega⟩
      have k1 : okP (f : Int) c := ⟨by omega, by omega, by omega⟩
      have k2 : okP (c : Int) t := ⟨by omega, by omega, by omega⟩
      have o1 : ovI M f c = ovZ M f c := by unfold ovI; rw [if_pos k1, Int.toNat_natCast, Int.toNat_natCast]
      have o2 : ovI M c t = ovZ M c t := by unfold ovI; rw [if_pos k2, Int.toNat_natCast, Int.toNat_natCast]
      have o3 : ovI M f t = ovZ M f t := by unfold ovI; rw [if_pos h1, Int.toNat_natCast, Int.toNat_natCast]
      have n1 := ovI_len hr f c
      have n2 := ovI_len hr c t
      have n3 := ovI_len hr f t
      have hsp := all_split hr (f := f) (c := c) (t := t) (by omega) (by omega)
      have hnd3 := nd_rise (ov_spec hr.nd f t).1
      rw [o1] at n1
      rw [o2] at n2
      rw [o3] at n3
      refine T.skip ?_
      refine T.seq ?_
      refine T.region ?_
      refine LW.q rfl (Qt.move rfl) ?_
      refine LW.q rfl (Qt.fieldAddr0 (by kernel_rfl) rfl) ?_
      first | refine LW.q rfl (Qt.load (by kernel_rfl) rfl rfl) ?_ | refine LW.q rfl (Qt.load (by kernel_rfl) rfl (map_at _ _ _ (by omega))) ?_ | refine LW.q rfl (Qt.load (by kernel_rfl) rfl (flat_cell0 _ _ _ (by intros; rfl) _ (by omega) (by rfl))) ?_ | refine LW.q rfl (Qt.load (by kernel_rfl) rfl (flat_cell _ _ _ (by intros; rfl) _ _ (by omega) (by rfl))) ?_ | refine LW.q rfl (Qt.load (by kernel_rfl) rfl (bytes_at _ _ (by omega))) ?_
      refine LW.q rfl (Qt.move rfl) ?_
      refine LW.q rfl (Qt.build [(0, 1), (1, 1)] [.int .i64 0, .int .i64 0] [_, _] [(0, _), (1, _)] (by kernel_rfl) (by unfold zeroB; kernel_rfl) rfl rfl) ?_
      refine LW.e rfl (Ef.call (Ri.overA B g gl gu gm M L U i hr (by omega) f c) Try.func34 rfl rfl rfl ?_)
      rintro _ _ ⟨p2, c2, rfl, rfl⟩
      try simp only [List.cons_append, List.nil_append]
      rw [o1]
      refine LW.q rfl (Qt.move rfl) ?_
      refine LW.q rfl (Qt.extr rfl rfl) ?_
      refine LW.q rfl (Qt.extr rfl rfl) ?_
      refine LW.q rfl (Qt.assign rfl) ?_
      refine LW.q rfl (Qt.assign rfl) ?_
      refine LW.done ?_
      refine T.seq ?_
      refine T.region ?_
      refine LW.q rfl (Qt.move rfl) ?_
      refine LW.q rfl (Qt.move rfl) ?_
      refine LW.q rfl (Qt.fieldAddr (off := 1) (by kernel_rfl) rfl) ?_
      first | refine LW.q rfl (Qt.load (by kernel_rfl) rfl rfl) ?_ | refine LW.q rfl (Qt.load (by kernel_rfl) rfl (map_at _ _ _ (by omega))) ?_ | refine LW.q rfl (Qt.load (by kernel_rfl) rfl (flat_cell0 _ _ _ (by intros; rfl) _ (by omega) (by rfl))) ?_ | refine LW.q rfl (Qt.load (by kernel_rfl) rfl (flat_cell _ _ _ (by intros; rfl) _ _ (by omega) (by rfl))) ?_ | refine LW.q rfl (Qt.load (by kernel_rfl) rfl (bytes_at _ _ (by omega))) ?_
      refine LW.q rfl (Qt.build [(0, 1), (1, 1)] [.int .i64 0, .int .i64 0] [_, _] [(0, _), (1, _)] (by kernel_rfl) (by unfold zeroB; kernel_rfl) rfl rfl) ?_
      refine LW.e rfl (Ef.call (Ri.overA B g gl gu gm M L U i hr (by omega) c t) Try.func34 rfl rfl rfl ?_)
      rintro _ _ ⟨p3, c3, rfl, rfl⟩
      try simp only [List.cons_append, List.nil_append]
      rw [o2]
      refine LW.q rfl (Qt.move rfl) ?_
      refine LW.q rfl (Qt.extr rfl rfl) ?_
      refine LW.q rfl (Qt.extr rfl rfl) ?_
      refine LW.q rfl (Qt.assign rfl) ?_
      refine LW.q rfl (Qt.assign rfl) ?_
      refine LW.done ?_
      refine T.seq ?_
      refine T.region ?_
      refine LW.q rfl (Qt.move rfl) ?_
      first | refine LW.q rfl (Qt.loadAgg [_, _] (by kernel_rfl) rfl ⟨rfl, rfl, trivial⟩) ?_ | refine LW.q rfl (Qt.loadAgg [_, _] (by kernel_rfl) rfl (by exact rdl_flat _ _ _ (by intros; rfl) _ (by omega))) ?_
      refine LW.e rfl (Ef.call (Ri.overA B g gl gu gm M L U i hr (by omega) f t) Try.func34 rfl rfl rfl ?_)
      rintro _ _ ⟨p4, c4, rfl, rfl⟩
      try simp only [List.cons_append, List.nil_append]
      rw [o3]
      refine LW.q rfl (Qt.move rfl) ?_
      refine LW.q rfl (Qt.extr rfl rfl) ?_
      refine LW.q rfl (Qt.extr rfl rfl) ?_
      refine LW.q rfl (Qt.assign rfl) ?_
      refine LW.q rfl (Qt.assign rfl) ?_
      refine LW.done ?_
      refine T.seq ?_
      refine T.region ?_
      refine LW.e rfl (Ef.makeMap Int Bool iV bV ?_)
      rintro gs
      try simp only [List.cons_append, List.nil_append]
      refine LW.q rfl (Qt.assign rfl) ?_
      refine LW.done ?_
      refine T.seq ?_
      refine T.seq ?_
      refine T.region ?_
      refine LW.e rfl (Ef.empty Ri.elemZ ?_)
      rintro g9
      try simp only [List.cons_append, List.nil_append]
      refine LW.q rfl (Qt.move rfl) ?_
      refine LW.e rfl (Ef.append Ri.elemZ rfl rfl (SrcOf.row (by kernel_rfl) one_iVz) (by unfold maxLen; omega) (by omega) ?_)
      rintro p5 c5 hp5
      try simp only [List.cons_append, List.nil_append]
      refine LW.q rfl (Qt.move rfl) ?_
      refine LW.e rfl (Ef.append Ri.elemZ rfl rfl (SrcOf.row (by kernel_rfl) one_iVz) (by unfold maxLen; omega) (by omega) ?_)
      rintro p6 c6 hp6
      try simp only [List.cons_append, List.nil_append]
      try simp only [Nat.zero_add, List.nil_append]
      rw [← List.map_append, ← List.length_append]
      have n4 : (ovZ M f c ++ ovZ M c t).length ≤ 2 * i := by rw [List.length_append]; omega
      obtain ⟨X, hX⟩ : ∃ X, X = ovZ M f c ++ ovZ M c t := ⟨_, rfl⟩
      obtain ⟨Z, hZ⟩ : ∃ Z, Z = ovZ M f t := ⟨_, rfl⟩
      rw [← hZ, ← hX] at hsp
      rw [← hZ] at hnd3 n3
      rw [← hX] at n4
      rw [← hX, ← hZ]
      refine LW.q rfl (Qt.len (e := 2) (sz := 1) (by kernel_rfl) rfl) ?_
      refine LW.q rfl (Qt.move rfl) ?_
      refine LW.done ?_
      refine T.block ?_
      refine T.loop (fun mz fz lz => ∃ (f0 : Fr) (j : Nat) (S : List (Int × Bool)), (j ≤ X.length ∧ SetOk S (X.take j)) ∧ mz = X.length - j ∧ fz = (upd (upd (upd (upd (upd f0 17 (.slice p4 Z.length c4)) 19 (.map (some gs))) 106 (.slice p6 X.length c6)) 107 (.int .i64 X.length)) 108 (.int .i64 j)) ∧ lz = rZ p6 X.length c6 X :: rZ p4 Z.length c4 Z :: mpA iV bV gs S :: F) ?_ ?_
      · refine ⟨_, _, ⟨_, 0, [], ⟨Nat.zero_le _, ⟨List.Pairwise.nil, (fun k => by simp), (fun _ h => nomatch h)⟩⟩, rfl, (updS rfl (updS rfl (updS rfl (updS rfl (updS rfl rfl))))), rfl⟩, Sub.any⟩
      ·
       rintro mz fz lz ⟨f0, j, S, ⟨hj, hS⟩, hmz, rfl, rfl⟩
       subst mz
       try simp only [List.cons_append, List.nil_append]
       refine T.seq ?_
       refine T.region ?_
       refine LW.q rfl (Qt.lss rfl rfl) ?_
       refine LW.done ?_
       refine T.seq ?_
       refine T.condP rfl (fun hjl => ?_) (fun hjl => ?_)
       ·
        have hjx : j < X.length := by omega
        refine T.own fun w1 ho1 => ?_
        obtain ⟨g6, rfl⟩ := (ho1.slice_at (p := p6) (m := X.length) (c := c6) (k := X.length)).2.1 (by omega)
        clear ho1
        refine T.skip ?_
        refine T.seq ?_
        refine T.block ?_
        refine T.seq ?_
        refine T.region ?_
        refine LW.q rfl (Qt.index j (e := 2) (sz := 1) (by kernel_rfl) rfl rfl rfl hjx) ?_
        refine LW.q rfl (Qt.load (v := iV X[j]) (by kernel_rfl) rfl (map_at _ _ _ hjx)) ?_
        refine LW.q rfl (Qt.assign rfl) ?_
        refine LW.done ?_
        refine T.region ?_
        refine LW.q rfl (Qt.move rfl) ?_
        refine LW.q rfl (Qt.move rfl) ?_
        refine LW.e0 rfl (Ef.mapUpdate Ri.okB rfl X[j] rfl true rfl ?_)
        try simp only [List.cons_append, List.nil_append]
        refine LW.done ?_
        refine T.region ?_
        refine LW.q rfl (Qt.add rfl rfl (wr64 (by omega) (by omega))) ?_
        refine LW.q rfl (Qt.move rfl) ?_
        refine LW.done ?_
        refine ⟨_, ?_, _, ⟨_, j + 1, putM S X[j] true, ⟨by omega, by rw [List.take_succ_eq_append_getElem hjx]; exact hS.put _⟩, rfl, (updS rfl (updS rfl (updS rfl (updS rfl (updS rfl rfl))))), rfl⟩, Sub.any⟩
        first | omega | (simp; omega)
       ·
        rw [List.take_of_length_le (by omega)] at hS
        have hlen := hS.len hnd3 hsp
        refine T.exit ?_
        refine T.seq ?_
        refine T.seq ?_
        refine T.region ?_
        refine LW.q rfl (Qt.move rfl) ?_
        refine LW.q rfl (Qt.len (e := 2) (sz := 1) (by kernel_rfl) rfl) ?_
        refine LW.q rfl (Qt.move rfl) ?_
        refine LW.done ?_
        refine T.block ?_
        refine T.loop (fun mz fz lz => ∃ (f0 : Fr) (j : Nat), (j ≤ Z.length) ∧ mz = Z.length - j ∧ fz = (upd (upd (upd (upd (upd f0 17 (.slice p4 Z.length c4)) 19 (.map (some gs))) 115 (.slice p4 Z.length c4)) 116 (.int .i64 Z.length)) 117 (.int .i64 j)) ∧ lz = rZ p4 Z.length c4 Z :: mpA iV bV gs S :: F) ?_ ?_
        · refine ⟨_, _, ⟨_, 0, Nat.zero_le _, rfl, (updS rfl (updS rfl (updS rfl (updS rfl (updS rfl rfl))))), rfl⟩, Sub.any⟩
        ·
         rintro mz fz lz ⟨f0, j, hj, hmz, rfl, rfl⟩
         subst mz
         try simp only [List.cons_append, List.nil_append]
         refine T.seq ?_
         refine T.region ?_
         refine LW.q rfl (Qt.lss rfl rfl) ?_
         refine LW.done ?_
         refine T.seq ?_
         refine T.condP rfl (fun hjl => ?_) (fun hjl => ?_)
         ·
          have hjx : j < Z.length := by omega
          have hin := hS.look ((hsp Z[j]).1 (List.getElem_mem hjx))
          refine T.own fun w1 ho1 => ?_
          obtain ⟨g6, rfl⟩ := (ho1.slice_at (p := p4) (m := Z.length) (c := c4) (k := Z.length)).2.1 (by omega)
          clear ho1
          refine T.skip ?_
          refine T.seq ?_
          refine T.block ?_
          refine T.seq ?_
          refine T.region ?_
          refine LW.q rfl (Qt.index j (e := 2) (sz := 1) (by kernel_rfl) rfl rfl rfl hjx) ?_
          refine LW.q rfl (Qt.load (v := iV Z[j]) (by kernel_rfl) rfl (map_at _ _ _ hjx)) ?_
          refine LW.q rfl (Qt.assign rfl) ?_
          refine LW.done ?_
          refine T.seq ?_
          refine T.region ?_
          refine LW.q rfl (Qt.move rfl) ?_
          refine LW.q rfl (Qt.move rfl) ?_
          refine LW.q rfl (Qt.look1 Ri.okB rfl Z[j] rfl false rfl) ?_
          first | refine LW.q rfl (Qt.notP rfl) ?_ | refine LW.q rfl (Qt.notB rfl) ?_
          refine LW.done ?_
          first | refine T.condF rfl ?_ | refine T.condPF rfl ((by rw [hin]; rfl)) ?_ | refine T.condBF rfl ((by rw [hin]; rfl)) ?_
          refine T.skip ?_
          refine T.region ?_
          refine LW.q rfl (Qt.add rfl rfl (wr64 (by omega) (by omega))) ?_
          refine LW.q rfl (Qt.move rfl) ?_
          refine LW.done ?_
          refine ⟨_, ?_, _, ⟨_, j + 1, by omega, rfl, (updS rfl (updS rfl (updS rfl (updS rfl (updS rfl rfl))))), rfl⟩, Sub.any⟩
          first | omega | (simp; omega)
         ·
          refine T.exit ?_
          refine T.seq ?_
          refine T.region ?_
          refine LW.q rfl (Qt.move rfl) ?_
          refine LW.q rfl (Qt.lenMap (L := S) Try.underlying76 rfl) ?_
          refine LW.q rfl (Qt.move rfl) ?_
          refine LW.q rfl (Qt.len (e := 2) (sz := 1) (by kernel_rfl) rfl) ?_
          refine LW.q rfl (Qt.eql rfl rfl) ?_
          refine LW.q rfl (Qt.assign rfl) ?_
          refine LW.done ?_
          refine T.ret ?_
          exact ⟨.inl rfl, _, _, res [_] rfl ⟨rvT rfl, trivial⟩, ⟨by simp [outV, hlen], rfl⟩, Sub.any⟩
   ·
    rw [show codeP a b = 40 by unfold codeP; rw [if_neg h1]]
    refine LW.q rfl (Qt.neq rfl rfl) ?_
    refine LW.q rfl (Qt.move rfl) ?_
    first | refine LW.gT (t := 65) rfl rfl ?_ | refine LW.gT (t := 65) rfl (decide_eq_true (by omega)) ?_ | refine LW.gT (t := 65) rfl (by omega) ?_
    refine LW.s rfl ?_
    refine LW.s rfl ?_
    refine LW.s rfl ?_
    refine LW.s rfl ?_
    refine LW.q rfl (Qt.pick rfl rfl) ?_
    refine LW.q rfl (Qt.move rfl) ?_
    first | refine LW.gT (t := 71) rfl rfl ?_ | refine LW.gT (t := 71) rfl (decide_eq_true (by omega)) ?_ | refine LW.gT (t := 71) rfl (by omega) ?_
    refine LW.s rfl ?_
    refine LW.s rfl ?_
    refine LW.s rfl ?_
    refine LW.s rfl ?_
    refine LW.q rfl (Qt.pick rfl rfl) ?_
    refine LW.done ?_
    first | refine T.condT rfl ?_ | refine T.condPT rfl (by omega) ?_ | refine T.condBT rfl (by omega) ?_
    refine T.seq ?_
    refine T.region ?_
    refine LW.q rfl (Qt.assign rfl) ?_
    refine LW.done ?_
    refine T.ret ?_
    exact ⟨.inl rfl, _, _, res [_] rfl ⟨rvT rfl, trivial⟩, ⟨rfl, rfl⟩, Sub.any⟩
end Go.Proofs.Ytefognjcognknaa

/- The law RitreeAll of annalslaw10 holds: for all arguments of bulk at most 1048576 the call returns true and the arguments read as before. Condition: the bound of the second form. -/
set_option linter.unusedSimpArgs false
set_option linter.unusedVariables false
namespace Go.Proofs.Ytefognjcognknaa.ritreeAll
open Go.ChangeShapes Go.WideShapes Go.ChangeAt Go.RowKit

set_option maxRecDepth 100000 in
theorem contract (H : Type) (enc : TypeId × Value → H) (W : World) (base : Nat) (args : Array Value) (ds gs : List (DataW H)) (before : List MemPlace)
    (hval : ∀ (j : Nat) t v, Try.f8.params[j]? = some t → args[j]? = some v → Value.okWide Try.prog W .any base t v)
    (hW : DataW.Whole enc Try.prog Try.f8.params.toList Rows.ritreeAllSpec.vars false W args.toList ds gs before) (hk : Rows.uptoSmall H (ds ++ gs) = true) :
    Calls Try.prog 8 args W fun e W' => ∃ v, e = .returned v ∧ Rows.ritreeAllSpec.post enc Try.prog Try.f8 false true false false W args v W' := by
  have hW0 := hW
  obtain ⟨p, q, hA0, hV, rfl, hfz, hnd⟩ := hW
  have hA : DataW.TrodAll enc Try.prog W 0 (fun _ => true) true Try.f8.params.toList args.toList ds p := hA0
  rw [Try.params8] at hA hval
  obtain ⟨v0, v1, v2, d0, d1, d2, p0, p1, p2, rfl, rfl, rfl, h0, h1, h2⟩ := trodAll_three hA
  obtain ⟨rfl, rfl⟩ := trodVars_none hV
  have hbulk := Try.upto_bound hk
  rw [List.append_nil] at hbulk
  clear hA0 hV hk
  obtain ⟨sa0, sl0, sc0, rfl⟩ := okWide_slice Try.underlying69 (hval 0 69 v0 rfl rfl)
  obtain ⟨fu0, t0⟩ := h0
  obtain ⟨sv0, l0, hc0, hs0, hB0, hL0⟩ := open_slice_R (enc := enc) (P := Try.prog) (W := W) (R := PdR) (B := fun _ => 1) Try.underlying69 (show Try.prog.cellsOf 57 = 2 by kernel_rfl) (by omega) (fun n cs y => read_pd n cs y) t0
  simp only [Value.cells, List.cons.injEq, and_true] at hc0
  subst hc0
  dsimp only at hB0 hL0
  have hlen0 := ones_pd l0
  obtain ⟨oc1, rfl, _, _⟩ := (show ∃ cs, v1 = .agg cs ∧ cs.size = Try.prog.cellsOf 57 ∧ Row.okWide Try.prog W .any base 57 cs by have := hval 1 57 v1 rfl rfl; simpa only [Value.okWide, Try.underlying57] using this)
  obtain ⟨fu1, t1⟩ := h1
  obtain ⟨⟨pf1, pt1⟩, ho1, hL1⟩ := read_pd _ _ _ t1
  unfold PdR at ho1
  simp only [Value.cells] at ho1
  obtain rfl : oc1 = #[.int .i64 pf1, .int .i64 pt1] := by apply Array.toList_inj.1; rw [ho1]
  dsimp only at hL1
  obtain ⟨a2, rfl, rfl, rfl, wf2⟩ := open_int Try.underlying2 (hval 2 2 v2 rfl rfl) h2
  rw [bulk_three] at hbulk

  refine (Fn.law (Ri.all _ _ l0 pf1 pt1 a2 hs0.roLPd (by omega))).mono fun e W' ⟨he, hg⟩ => ?_
  subst he
  exact ⟨_, rfl, post_law Try.laidOut hW0 rfl rfl 4 Try.underlying4 (by kernel_rfl) (by rw [Try.params8]; decide +kernel) hg.toBelow⟩

set_option maxRecDepth 100000 in
theorem lifted (os : Os) (started : os.Started) (H : Type) (enc : TypeId × Value → H) (F : Stop.Interp) :
    ReturnsInHanded {} Try.checked os 8 .any ((Rows.OpenSpec.upto Rows.ritreeAllSpec).pre6 enc Try.prog Try.f8 Rows.ritreeAllUptoRow.domain false) (((Rows.OpenSpec.upto Rows.ritreeAllSpec).at F).post enc Try.prog Try.f8 false true false false) := by
  refine returnsInHanded_of_cond (C := Try.checked) (s := Rows.OpenSpec.upto Rows.ritreeAllSpec) (k := Rows.uptoSmall) rfl Try.own started (by kernel_rfl) Try.func8
    (OpenSpec.witness (enc := enc) (C := Try.checked) (s := Rows.OpenSpec.upto Rows.ritreeAllSpec) (k := Rows.uptoSmall) rfl false ⟨#[], #[.slice none 0 0, .agg #[.int .i64 0, .int .i64 0], .int .i64 0], []⟩ 8 (by kernel_rfl) (by kernel_rfl) (by kernel_rfl)
      (x := ([.nil, .agg [.lit (.int .i64 0), .lit (.int .i64 0)], .lit (.int .i64 0)], [], [])) (by kernel_rfl) rfl (by kernel_rfl)) ?_
  intro W base args ds gs before hval hW _ hk _
  exact contract H enc W base args ds gs before hval hW hk

theorem over : Rows.ritreeAllUptoRow.holds Try.pinned (Rows.OpenSpec.upto Rows.ritreeAllSpec) :=
  OpenClaim.holds_of_cond 8 Try.f8 rfl rfl rfl rfl rfl rfl rfl ⟨rfl, rfl, rfl, rfl, rfl⟩ rfl rfl rfl rfl rfl (by kernel_rfl) Try.func8 (by kernel_rfl)
    (of_decide_eq_true (by kernel_rfl)) (by unfold Func.isWrapper; first | (rw [if_pos (by decide +kernel)]; kernel_rfl) | (rw [if_neg (by decide +kernel)]; exact ⟨rfl, rfl⟩))
    (fun os started H enc _ F => lifted os started H enc F)

theorem proved : Rows.RitreeAllUptoSaid := over
end Go.Proofs.Ytefognjcognknaa.ritreeAll
