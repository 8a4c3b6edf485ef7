/- The law RitreePlays of annalslaw10 holds: for all arguments of bulk at most 1048576 the call returns true and the arguments read as before. Condition: the bound of the second form. -/
import Derived.Test.YtefognjcognknaaZRiBasf14
/- The document's answer: Right, Fork, Ancestors, with, Nodes. Conditions: sizes. -/
set_option linter.unusedSimpArgs false
set_option linter.unusedVariables false
namespace Go.Proofs.Ytefognjcognknaa
open Go.RowKit
theorem wr64_nat {m : Nat} (h : m < 2 ^ 63) : IntKind.i64.wrap (m : Int) = m := wr64 (by omega) (by omega)
section
variable {P : Program} {B : Base} {n : Nat} {S : List Assn} {f : Fr}
variable {d : Option Tmp} {ty : TypeId} {pos : String} {af : Array Edge} {gd : Option (Nat × Bool)}
theorem Qt.quoN {t t2 : TypeId} {x y : Operand} {k : IntKind} {z w : Int} (a b : Nat) (hx : ev n f x = some (.int k z)) (hz : z = (a : Int)) (hy : ev n f y = some (.int k w)) (hw : w = (b : Int)) (hb : b ≠ 0) (hr : k.wrap ((a / b : Nat) : Int) = ((a / b : Nat) : Int)) : Qt P B n S ⟨d, .binOp .quo t x y t2, ty, pos, af, gd⟩ f (.int k ((a / b : Nat) : Int)) := by
  subst hz; subst hw
  exact Qt.quo hx hy (by omega) hr
theorem Qt.remN {t t2 : TypeId} {x y : Operand} {k : IntKind} {z w : Int} (a b : Nat) (hx : ev n f x = some (.int k z)) (hz : z = (a : Int)) (hy : ev n f y = some (.int k w)) (hw : w = (b : Int)) (hb : b ≠ 0) : Qt P B n S ⟨d, .binOp .rem t x y t2, ty, pos, af, gd⟩ f (.int k ((a % b : Nat) : Int)) := by
  subst hz; subst hw
  exact Qt.rem hx hy (by omega) rfl
theorem Qt.mulN {t t2 : TypeId} {x y : Operand} {k : IntKind} {z w : Int} (a b : Nat) (hx : ev n f x = some (.int k z)) (hz : z = (a : Int)) (hy : ev n f y = some (.int k w)) (hw : w = (b : Int)) (hr : k.wrap ((a * b : Nat) : Int) = ((a * b : Nat) : Int)) : Qt P B n S ⟨d, .binOp .mul t x y t2, ty, pos, af, gd⟩ f (.int k ((a * b : Nat) : Int)) := by
  subst hz; subst hw
  exact Qt.mul hx hy (by rw [← Int.natCast_mul]; exact hr)
end
theorem Ri.right (B : Base) (f t : Int) : Fn Try.prog B 57 #[pdV f t] [] (fun u l => u = .bool (decide (okP f t)) ∧ l = []) := by
 refine Fn.enter1 18 Try.func57 rfl rfl (Nat.le_of_ble_eq_true rfl) (fun F => ?_)
 try simp only [List.cons_append, List.nil_append]
 refine T.seq ?_
 refine T.region ?_
 refine LW.e rfl (Ef.box [_, _] rfl rfl ?_)
 intro g1
 refine LW.q rfl (Qt.assign rfl) ?_
 refine LW.done ?_
 refine T.seq ?_
 refine T.region ?_
 refine LW.q rfl (Qt.fieldAddr0 (by kernel_rfl) rfl) ?_
 first | refine LW.q rfl (Qt.load (by kernel_rfl) rfl rfl) ?_ | refine LW.q rfl (Qt.load (by kernel_rfl) rfl (map_at _ _ _ (by omega))) ?_ | refine LW.q rfl (Qt.load (by kernel_rfl) rfl (flat_cell0 _ _ _ (by intros; rfl) _ (by omega) (by rfl))) ?_ | refine LW.q rfl (Qt.load (by kernel_rfl) rfl (flat_cell _ _ _ (by intros; rfl) _ _ (by omega) (by rfl))) ?_ | refine LW.q rfl (Qt.load (by kernel_rfl) rfl (bytes_at _ _ (by omega))) ?_
 refine LW.q rfl (Qt.geq rfl rfl) ?_
 refine LW.q rfl (Qt.move rfl) ?_
 refine LW.split (t := 6) rfl (fun h1 => ?_) (fun h1 => ?_)
 ·
  try replace h1 := of_decide_eq_true h1
  refine LW.q rfl (Qt.fieldAddr0 (by kernel_rfl) rfl) ?_
  first | refine LW.q rfl (Qt.load (by kernel_rfl) rfl rfl) ?_ | refine LW.q rfl (Qt.load (by kernel_rfl) rfl (map_at _ _ _ (by omega))) ?_ | refine LW.q rfl (Qt.load (by kernel_rfl) rfl (flat_cell0 _ _ _ (by intros; rfl) _ (by omega) (by rfl))) ?_ | refine LW.q rfl (Qt.load (by kernel_rfl) rfl (flat_cell _ _ _ (by intros; rfl) _ _ (by omega) (by rfl))) ?_ | refine LW.q rfl (Qt.load (by kernel_rfl) rfl (bytes_at _ _ (by omega))) ?_
  refine LW.q rfl (Qt.fieldAddr (off := 1) (by kernel_rfl) rfl) ?_
  first | refine LW.q rfl (Qt.load (by kernel_rfl) rfl rfl) ?_ | refine LW.q rfl (Qt.load (by kernel_rfl) rfl (map_at _ _ _ (by omega))) ?_ | refine LW.q rfl (Qt.load (by kernel_rfl) rfl (flat_cell0 _ _ _ (by intros; rfl) _ (by omega) (by rfl))) ?_ | refine LW.q rfl (Qt.load (by kernel_rfl) rfl (flat_cell _ _ _ (by intros; rfl) _ _ (by omega) (by rfl))) ?_ | refine LW.q rfl (Qt.load (by kernel_rfl) rfl (bytes_at _ _ (by omega))) ?_
  refine LW.q rfl (Qt.lss rfl rfl) ?_
  refine LW.q rfl (Qt.pick rfl rfl) ?_
  refine LW.q rfl (Qt.move rfl) ?_
  refine LW.split (t := 13) rfl (fun h2 => ?_) (fun h2 => ?_)
  ·
   try replace h2 := of_decide_eq_true h2
   refine LW.q rfl (Qt.fieldAddr (off := 1) (by kernel_rfl) rfl) ?_
   first | refine LW.q rfl (Qt.load (by kernel_rfl) rfl rfl) ?_ | refine LW.q rfl (Qt.load (by kernel_rfl) rfl (map_at _ _ _ (by omega))) ?_ | refine LW.q rfl (Qt.load (by kernel_rfl) rfl (flat_cell0 _ _ _ (by intros; rfl) _ (by omega) (by rfl))) ?_ | refine LW.q rfl (Qt.load (by kernel_rfl) rfl (flat_cell _ _ _ (by intros; rfl) _ _ (by omega) (by rfl))) ?_ | refine LW.q rfl (Qt.load (by kernel_rfl) rfl (bytes_at _ _ (by omega))) ?_
   refine LW.q rfl (Qt.leq rfl rfl) ?_
   refine LW.q rfl (Qt.pick rfl rfl) ?_
   refine LW.q rfl (Qt.assign rfl) ?_
   refine LW.done ?_
   refine T.ret ?_
   exact ⟨.inl rfl, _, _, res [_] rfl ⟨rvT rfl, trivial⟩, ⟨congrArg Value.bool (decide_eq_decide.2 ⟨fun h => ⟨by omega, by omega, by omega⟩, fun h => by obtain ⟨_, _, h⟩ := h; omega⟩), rfl⟩, Sub.any⟩
  ·
   try replace h2 := of_decide_eq_false h2
   refine LW.s rfl ?_
   refine LW.s rfl ?_
   refine LW.s rfl ?_
   refine LW.q rfl (Qt.pick rfl rfl) ?_
   refine LW.q rfl (Qt.assign rfl) ?_
   refine LW.done ?_
   refine T.ret ?_
   exact ⟨.inl rfl, _, _, res [_] rfl ⟨rvT rfl, trivial⟩, ⟨congrArg Value.bool (decide_eq_false (fun h => by obtain ⟨_, h, _⟩ := h; omega)).symm, rfl⟩, Sub.any⟩
 ·
  try replace h1 := of_decide_eq_false h1
  refine LW.s rfl ?_
  refine LW.s rfl ?_
  refine LW.s rfl ?_
  refine LW.s rfl ?_
  refine LW.s rfl ?_
  refine LW.q rfl (Qt.pick rfl rfl) ?_
  refine LW.q rfl (Qt.move rfl) ?_
  first | refine LW.gF (t := 13) rfl rfl ?_ | refine LW.gF (t := 13) rfl (decide_eq_false (by omega)) ?_ | refine LW.gF (t := 13) rfl (by omega) ?_
  refine LW.s rfl ?_
  refine LW.s rfl ?_
  refine LW.s rfl ?_
  refine LW.q rfl (Qt.pick rfl rfl) ?_
  refine LW.q rfl (Qt.assign rfl) ?_
  refine LW.done ?_
  refine T.ret ?_
  exact ⟨.inl rfl, _, _, res [_] rfl ⟨rvT rfl, trivial⟩, ⟨congrArg Value.bool (decide_eq_false (fun h => by obtain ⟨h, _, _⟩ := h; omega)).symm, rfl⟩, Sub.any⟩
/-- The first multiple of a power. -/
def ceilN (a k : Nat) : Nat := (a + 2 ^ k - 1) / 2 ^ k * 2 ^ k
theorem ref_lev {a b : Nat} (h : a < b) (hb : b ≤ 1099511627776) : ∃ lev, lev ≤ 41 ∧ (∀ k, lev < k → k ≤ 41 → b ≤ ceilN a k) ∧ ceilN a lev = forkN a b := by
  rcases Nat.eq_zero_or_pos a with rfl | h0
  · refine ⟨41, Nat.le_refl _, fun k h1 h2 => by omega, ?_⟩
    simp [ceilN, forkN]
  · obtain ⟨j, q, e1, e2, e3, e4⟩ := fork_spec h0 h
    have hne : (a - 1) ^^^ (b - 1) ≠ 0 := fun e => by have := xor_zero e; omega
    have hx : (a - 1) ^^^ (b - 1) < 2 ^ 40 := Nat.xor_lt_two_pow (by omega) (by omega)
    have hj : j < 40 := by
      have := ((lenN_iff hne).1 e1).1
      exact (Nat.pow_lt_pow_iff_right (by omega)).1 (show 2 ^ j < 2 ^ 40 by omega)
    have hc : ∀ k, ceilN a k = ((a - 1) / 2 ^ k + 1) * 2 ^ k := fun k => by
      unfold ceilN
      have hp := Nat.two_pow_pos k
      rw [show a + 2 ^ k - 1 = (a - 1) + 2 ^ k by omega, Nat.add_div_right _ hp]
    refine ⟨j, by omega, fun k h1 h2 => ?_, by rw [hc, e2, e4]⟩
    rw [hc]
    have hp := Nat.two_pow_pos k
    have e5 : (a - 1) / 2 ^ k = (b - 1) / 2 ^ k := by
      obtain ⟨d, rfl⟩ : ∃ d, k = j + 1 + d := ⟨k - (j + 1), by omega⟩
      rw [Nat.pow_add, Nat.pow_succ, ← Nat.div_div_eq_div_mul, ← Nat.div_div_eq_div_mul, ← Nat.div_div_eq_div_mul, ← Nat.div_div_eq_div_mul, e2, e3]
      congr 1; omega
    have := (Nat.div_lt_iff_lt_mul hp).1 (show (b - 1) / 2 ^ k < (a - 1) / 2 ^ k + 1 by omega)
    omega
theorem ceil_le {a k : Nat} (hk : k ≤ 41) (ha : a < 2 ^ 40) : ceilN a k < 2 ^ 43 := by
  unfold ceilN
  have h1 := Nat.div_mul_le_self (a + 2 ^ k - 1) (2 ^ k)
  have h2 : 2 ^ k ≤ 2 ^ 41 := Nat.pow_le_pow_right (by omega) hk
  omega
set_option maxHeartbeats 2000000 in
set_option maxRecDepth 100000 in
theorem Ri.rfork (B : Base) (f t : Int) : Fn Try.prog B 28 #[pdV f t] [] (fun u l => u = .tuple #[.int .i64 (forkI f t), .int .i64 (codeP f t)] ∧ l = []) := by
 refine Fn.enter1 30 Try.func28 rfl rfl (Nat.le_of_ble_eq_true rfl) (fun F => ?_)
 try simp only [List.cons_append, List.nil_append]
 refine T.seq ?_
 refine T.region ?_
 refine LW.e rfl (Ef.box [_, _] rfl rfl ?_)
 intro g1
 refine LW.q rfl (Qt.assign rfl) ?_
 refine LW.q rfl (Qt.assign rfl) ?_
 refine LW.done ?_
 refine T.seq ?_
 refine T.seq ?_
 refine T.region ?_
 first | refine LW.q rfl (Qt.loadAgg [_, _] (by kernel_rfl) rfl ⟨rfl, rfl, trivial⟩) ?_ | refine LW.q rfl (Qt.loadAgg [_, _] (by kernel_rfl) rfl (by exact rdl_flat _ _ _ (by intros; rfl) _ (by omega))) ?_
 refine LW.e rfl (Ef.call (Ri.right B f t) Try.func57 rfl rfl rfl ?_)
 rintro _ _ ⟨rfl, rfl⟩
 try simp only [List.cons_append, List.nil_append]
 by_cases h : okP f t
 ·
  first | refine LW.q rfl (Qt.notP rfl) ?_ | refine LW.q rfl (Qt.notB rfl) ?_
  refine LW.done ?_
  first | refine T.condF rfl ?_ | refine T.condPF rfl ((fun k => k h)) ?_ | refine T.condBF rfl ((fun k => k h)) ?_
  obtain ⟨a, b, rfl, rfl, hab, hb⟩ := okP_nat h
  obtain ⟨lev, hl1, hl2, hl3⟩ := ref_lev hab hb
  refine T.skip ?_
  refine T.seq ?_
  refine T.seq ?_
  refine T.region ?_
  refine LW.q rfl (Qt.assign rfl) ?_
  refine LW.done ?_
  refine T.block ?_
  refine T.loop (fun mz fz lz => ∃ (f0 : Fr) (k : Nat), (lev ≤ k ∧ k ≤ 41) ∧ mz = k ∧ fz = (upd (upd f0 1 (pV g1)) 4 (.int .i64 k)) ∧ lz = blk g1 [.int .i64 a, .int .i64 b] 57 :: F) ?_ ?_
  · refine ⟨_, _, ⟨_, 41, ⟨hl1, Nat.le_refl _⟩, rfl, (updS rfl (updS rfl rfl)), rfl⟩, Sub.any⟩
  ·
   rintro mz fz lz ⟨f0, k, ⟨hk1, hk2⟩, hmz, rfl, rfl⟩
   subst mz
   try simp only [List.cons_append, List.nil_append]
   refine T.seq ?_
   refine T.seq ?_
   refine T.region ?_
   refine LW.q rfl (Qt.move rfl) ?_
   refine LW.q rfl (Qt.geq rfl rfl) ?_
   refine LW.done ?_
   first | refine T.condT rfl ?_ | refine T.condPT rfl (by omega) ?_ | refine T.condBT rfl (by omega) ?_
   have hpk := Nat.two_pow_pos k
   have hpl : 2 ^ k ≤ 2 ^ 41 := Nat.pow_le_pow_right (by omega) hk2
   have hcl := ceil_le (a := a) hk2 (by omega)
   have hce : (a + 2 ^ k - 1) / 2 ^ k * 2 ^ k = ceilN a k := rfl
   by_cases hkl : k = lev
   ·
    subst hkl
    have hfi := fork_in hab
    rw [hl3] at hce
    refine T.skip ?_
    refine T.seq ?_
    refine T.block ?_
    refine T.seq ?_
    refine T.region ?_
    refine LW.q rfl (Qt.move rfl) ?_
    refine LW.q rfl (Qt.shlI 1 k rfl rfl rfl rfl rfl (by omega) (by rw [Nat.one_mul]; exact wr64 (by omega) (by omega))) ?_
    refine LW.q rfl (Qt.assign rfl) ?_
    refine LW.done ?_
    refine T.seq ?_
    refine T.region ?_
    refine LW.q rfl (Qt.fieldAddr0 (by kernel_rfl) rfl) ?_
    first | refine LW.q rfl (Qt.load (by kernel_rfl) rfl rfl) ?_ | refine LW.q rfl (Qt.load (by kernel_rfl) rfl (map_at _ _ _ (by omega))) ?_ | refine LW.q rfl (Qt.load (by kernel_rfl) rfl (flat_cell0 _ _ _ (by intros; rfl) _ (by omega) (by rfl))) ?_ | refine LW.q rfl (Qt.load (by kernel_rfl) rfl (flat_cell _ _ _ (by intros; rfl) _ _ (by omega) (by rfl))) ?_ | refine LW.q rfl (Qt.load (by kernel_rfl) rfl (bytes_at _ _ (by omega))) ?_
    refine LW.q rfl (Qt.move rfl) ?_
    refine LW.q rfl (Qt.add (r := ((a + 2 ^ k : Nat) : Int)) rfl rfl (by rw [Nat.one_mul, wr64 (by omega) (by omega)]; omega)) ?_
    refine LW.q rfl (Qt.sub (r := ((a + 2 ^ k - 1 : Nat) : Int)) rfl rfl (by rw [wr64 (by omega) (by omega)]; omega)) ?_
    refine LW.q rfl (Qt.move rfl) ?_
    refine LW.q rfl (Qt.quoN (a + 2 ^ k - 1) (2 ^ k) rfl rfl rfl (by rw [Nat.one_mul]) (by omega) (wr64_nat (by have := Nat.div_le_self (a + 2 ^ k - 1) (2 ^ k); omega))) ?_
    refine LW.q rfl (Qt.move rfl) ?_
    refine LW.q rfl (Qt.mulN ((a + 2 ^ k - 1) / 2 ^ k) (2 ^ k) rfl rfl rfl (by rw [Nat.one_mul]) (wr64_nat (by unfold ceilN at hcl; omega))) ?_
    refine LW.q rfl (Qt.assign rfl) ?_
    refine LW.done ?_
    refine T.seq ?_
    refine T.region ?_
    refine LW.q rfl (Qt.move rfl) ?_
    refine LW.q rfl (Qt.fieldAddr (off := 1) (by kernel_rfl) rfl) ?_
    first | refine LW.q rfl (Qt.load (by kernel_rfl) rfl rfl) ?_ | refine LW.q rfl (Qt.load (by kernel_rfl) rfl (map_at _ _ _ (by omega))) ?_ | refine LW.q rfl (Qt.load (by kernel_rfl) rfl (flat_cell0 _ _ _ (by intros; rfl) _ (by omega) (by rfl))) ?_ | refine LW.q rfl (Qt.load (by kernel_rfl) rfl (flat_cell _ _ _ (by intros; rfl) _ _ (by omega) (by rfl))) ?_ | refine LW.q rfl (Qt.load (by kernel_rfl) rfl (bytes_at _ _ (by omega))) ?_
    refine LW.q rfl (Qt.lss rfl rfl) ?_
    refine LW.done ?_
    first | refine T.condT rfl ?_ | refine T.condPT rfl ((by omega)) ?_ | refine T.condBT rfl ((by omega)) ?_
    refine T.seq ?_
    refine T.region ?_
    refine LW.q rfl (Qt.move rfl) ?_
    refine LW.q rfl (Qt.assign rfl) ?_
    refine LW.q rfl (Qt.assign rfl) ?_
    refine LW.done ?_
    refine T.ret ?_
    exact ⟨.inl rfl, _, _, res [_, _] rfl ⟨rvT rfl, rvT rfl, trivial⟩, ⟨by rw [hce]; unfold forkI codeP; rw [if_pos h, if_pos h]; rfl, rfl⟩, Sub.any⟩
   ·
    have := hl2 k (by omega) hk2
    rw [← hce] at this
    refine T.skip ?_
    refine T.seq ?_
    refine T.block ?_
    refine T.seq ?_
    refine T.region ?_
    refine LW.q rfl (Qt.move rfl) ?_
    refine LW.q rfl (Qt.shlI 1 k rfl rfl rfl rfl rfl (by omega) (by rw [Nat.one_mul]; exact wr64 (by omega) (by omega))) ?_
    refine LW.q rfl (Qt.assign rfl) ?_
    refine LW.done ?_
    refine T.seq ?_
    refine T.region ?_
    refine LW.q rfl (Qt.fieldAddr0 (by kernel_rfl) rfl) ?_
    first | refine LW.q rfl (Qt.load (by kernel_rfl) rfl rfl) ?_ | refine LW.q rfl (Qt.load (by kernel_rfl) rfl (map_at _ _ _ (by omega))) ?_ | refine LW.q rfl (Qt.load (by kernel_rfl) rfl (flat_cell0 _ _ _ (by intros; rfl) _ (by omega) (by rfl))) ?_ | refine LW.q rfl (Qt.load (by kernel_rfl) rfl (flat_cell _ _ _ (by intros; rfl) _ _ (by omega) (by rfl))) ?_ | refine LW.q rfl (Qt.load (by kernel_rfl) rfl (bytes_at _ _ (by omega))) ?_
    refine LW.q rfl (Qt.move rfl) ?_
    refine LW.q rfl (Qt.add (r := ((a + 2 ^ k : Nat) : Int)) rfl rfl (by rw [Nat.one_mul, wr64 (by omega) (by omega)]; omega)) ?_
    refine LW.q rfl (Qt.sub (r := ((a + 2 ^ k - 1 : Nat) : Int)) rfl rfl (by rw [wr64 (by omega) (by omega)]; omega)) ?_
    refine LW.q rfl (Qt.move rfl) ?_
    refine LW.q rfl (Qt.quoN (a + 2 ^ k - 1) (2 ^ k) rfl rfl rfl (by rw [Nat.one_mul]) (by omega) (wr64_nat (by have := Nat.div_le_self (a + 2 ^ k - 1) (2 ^ k); omega))) ?_
    refine LW.q rfl (Qt.move rfl) ?_
    refine LW.q rfl (Qt.mulN ((a + 2 ^ k - 1) / 2 ^ k) (2 ^ k) rfl rfl rfl (by rw [Nat.one_mul]) (wr64_nat (by unfold ceilN at hcl; omega))) ?_
    refine LW.q rfl (Qt.assign rfl) ?_
    refine LW.done ?_
    refine T.seq ?_
    refine T.region ?_
    refine LW.q rfl (Qt.move rfl) ?_
    refine LW.q rfl (Qt.fieldAddr (off := 1) (by kernel_rfl) rfl) ?_
    first | refine LW.q rfl (Qt.load (by kernel_rfl) rfl rfl) ?_ | refine LW.q rfl (Qt.load (by kernel_rfl) rfl (map_at _ _ _ (by omega))) ?_ | refine LW.q rfl (Qt.load (by kernel_rfl) rfl (flat_cell0 _ _ _ (by intros; rfl) _ (by omega) (by rfl))) ?_ | refine LW.q rfl (Qt.load (by kernel_rfl) rfl (flat_cell _ _ _ (by intros; rfl) _ _ (by omega) (by rfl))) ?_ | refine LW.q rfl (Qt.load (by kernel_rfl) rfl (bytes_at _ _ (by omega))) ?_
    refine LW.q rfl (Qt.lss rfl rfl) ?_
    refine LW.done ?_
    first | refine T.condF rfl ?_ | refine T.condPF rfl ((by omega)) ?_ | refine T.condBF rfl ((by omega)) ?_
    refine T.skip ?_
    refine T.region ?_
    refine LW.q rfl (Qt.move rfl) ?_
    refine LW.q rfl (Qt.sub (r := ((k - 1 : Nat) : Int)) rfl rfl (by rw [wr64 (by omega) (by omega)]; omega)) ?_
    refine LW.q rfl (Qt.assign rfl) ?_
    refine LW.done ?_
    refine ⟨_, ?_, _, ⟨_, k - 1, ⟨by omega, by omega⟩, rfl, (updS rfl (updS rfl rfl)), rfl⟩, Sub.any⟩
    first | omega | (simp; omega)
 ·
  first | refine LW.q rfl (Qt.notP rfl) ?_ | refine LW.q rfl (Qt.notB rfl) ?_
  refine LW.done ?_
  first | refine T.condT rfl ?_ | refine T.condPT rfl ((h)) ?_ | refine T.condBT rfl ((h)) ?_
  refine T.seq ?_
  refine T.region ?_
  refine LW.q rfl (Qt.assign rfl) ?_
  refine LW.q rfl (Qt.assign rfl) ?_
  refine LW.done ?_
  refine T.ret ?_
  exact ⟨.inl rfl, _, _, res [_, _] rfl ⟨rvT rfl, rvT rfl, trivial⟩, ⟨by unfold forkI codeP; rw [if_neg h, if_neg h]; rfl, rfl⟩, Sub.any⟩
theorem anc_low {n k : Nat} : flatA n (k + 1) = flatA n k ++ ancT n (k + 1) := by
  unfold flatA
  rw [List.range_succ, List.flatMap_append]; simp
theorem flat_len40 (n : Nat) : ∀ k, (flatA n k).length ≤ k
  | 0 => by simp [flatA]
  | k + 1 => by
    rw [anc_low, List.length_append]
    have h1 := flat_len40 n k
    have h2 : (ancT n (k + 1)).length ≤ 1 := by unfold ancT; split <;> simp
    omega
set_option maxHeartbeats 2000000 in
set_option maxRecDepth 100000 in
theorem Ri.ranc (B : Base) (n : Nat) (z : Int) (hz : z = n) (hn : n < 2 ^ 41) : Fn Try.prog B 61 #[.int .i64 z] [] (fun u l => ∃ p c, u = .slice p (ancN n).length c ∧ l = [rZ p (ancN n).length c (zL (ancN n))]) := by
 subst hz
 refine Fn.enter1 34 Try.func61 rfl rfl (Nat.le_of_ble_eq_true rfl) (fun F => ?_)
 try simp only [List.cons_append, List.nil_append]
 refine T.seq ?_
 refine T.region ?_
 refine LW.q rfl (Qt.assign rfl) ?_
 refine LW.done ?_
 refine T.seq ?_
 refine T.region ?_
 refine LW.q rfl (Qt.assign rfl) ?_
 refine LW.done ?_
 refine T.seq ?_
 refine T.seq ?_
 refine T.region ?_
 refine LW.q rfl (Qt.move rfl) ?_
 refine LW.q rfl (Qt.eql rfl rfl) ?_
 refine LW.done ?_
 refine T.conv (l' := rZ none ([] : List Nat).length 0 (zL []) :: F) (fun w ho => ho.row_nil _ _) ?_
 refine T.condP rfl (fun h0 => ?_) (fun h0 => ?_)
 ·
  have e0 : ancN n = [] := by unfold ancN; rw [if_pos (by omega)]
  refine T.seq ?_
  refine T.region ?_
  refine LW.q rfl (Qt.move rfl) ?_
  refine LW.q rfl (Qt.assign rfl) ?_
  refine LW.done ?_
  refine T.ret ?_
  exact ⟨.inl rfl, _, _, res [_] rfl ⟨rvT rfl, trivial⟩, ⟨none, 0, by rw [e0]; rfl, by rw [e0]⟩, Sub.any⟩
 ·
  have h0' : n ≠ 0 := by omega
  refine T.skip ?_
  refine T.seq ?_
  refine T.seq ?_
  refine T.region ?_
  refine LW.q rfl (Qt.assign rfl) ?_
  refine LW.done ?_
  refine T.block ?_
  refine T.loop (fun mz fz lz => ∃ (f0 : Fr) (k : Nat) (o : List Nat) (p : Option Addr) (cp : Nat), (k ≤ 40 ∧ o = flatA n k) ∧ mz = 41 - k ∧ fz = (upd (upd (upd f0 0 (.int .i64 n)) 3 (.slice p o.length cp)) 4 (.int .i64 (k + 1 : Nat))) ∧ lz = rZ p o.length cp (zL o) :: F) ?_ ?_
  · refine ⟨_, _, ⟨_, 0, [], none, 0, ⟨by omega, rfl⟩, rfl, (updS rfl (updS rfl (updS rfl rfl))), rfl⟩, Sub.any⟩
  ·
   rintro mz fz lz ⟨f0, k, o, p, cp, ⟨hk, ho⟩, hmz, rfl, rfl⟩
   subst mz
   try simp only [List.cons_append, List.nil_append]
   refine T.seq ?_
   refine T.seq ?_
   refine T.region ?_
   refine LW.q rfl (Qt.move rfl) ?_
   refine LW.q rfl (Qt.leq rfl rfl) ?_
   refine LW.done ?_
   refine T.condP rfl (fun hlt => ?_) (fun hlt => ?_)
   ·
    have hk40 : k + 1 ≤ 40 := by omega
    have hol := flat_len40 n k
    rw [← ho] at hol
    have hpk := Nat.two_pow_pos (k + 1)
    have hpl : 2 ^ (k + 1) ≤ 2 ^ 40 := Nat.pow_le_pow_right (by omega) hk40
    by_cases hm : n % 2 ^ (k + 1) = 0
    ·
     have hat : ancT n (k + 1) = [] := by unfold ancT; rw [if_pos hm]
     refine T.skip ?_
     refine T.seq ?_
     refine T.block ?_
     refine T.seq ?_
     refine T.region ?_
     refine LW.q rfl (Qt.move rfl) ?_
     refine LW.q rfl (Qt.shlI 1 (k + 1) rfl rfl rfl rfl rfl (by omega) (by rw [Nat.one_mul]; exact wr64 (by omega) (by omega))) ?_
     refine LW.q rfl (Qt.assign rfl) ?_
     refine LW.done ?_
     refine T.seq ?_
     refine T.seq ?_
     refine T.region ?_
     refine LW.q rfl (Qt.move rfl) ?_
     refine LW.q rfl (Qt.move rfl) ?_
     refine LW.q rfl (Qt.remN n (2 ^ (k + 1)) rfl rfl rfl (by rw [Nat.one_mul]) (by omega)) ?_
     refine LW.q rfl (Qt.eql rfl rfl) ?_
     refine LW.done ?_
     first | refine T.condT rfl ?_ | refine T.condPT rfl (by omega) ?_ | refine T.condBT rfl (by omega) ?_
     refine T.exit ?_
     refine T.region ?_
     refine LW.q rfl (Qt.move rfl) ?_
     refine LW.q rfl (Qt.add rfl rfl (wr64 (by omega) (by omega))) ?_
     refine LW.q rfl (Qt.assign rfl) ?_
     refine LW.done ?_
     refine ⟨_, ?_, _, ⟨_, k + 1, o, p, cp, ⟨hk40, by rw [anc_low, hat, List.append_nil, ho]⟩, rfl, (updS rfl (updS rfl (updS rfl rfl))), rfl⟩, Sub.any⟩
     first | omega | (simp; omega)
    ·
     have hat : ancT n (k + 1) = [n / (2 * 2 ^ (k + 1)) * (2 * 2 ^ (k + 1)) + 2 ^ (k + 1)] := by unfold ancT; rw [if_neg hm]
     have hdm := Nat.div_mul_le_self n (2 * 2 ^ (k + 1))
     have hdl := Nat.div_le_self n (2 * 2 ^ (k + 1))
     refine T.skip ?_
     refine T.seq ?_
     refine T.block ?_
     refine T.seq ?_
     refine T.region ?_
     refine LW.q rfl (Qt.move rfl) ?_
     refine LW.q rfl (Qt.shlI 1 (k + 1) rfl rfl rfl rfl rfl (by omega) (by rw [Nat.one_mul]; exact wr64 (by omega) (by omega))) ?_
     refine LW.q rfl (Qt.assign rfl) ?_
     refine LW.done ?_
     refine T.seq ?_
     refine T.seq ?_
     refine T.region ?_
     refine LW.q rfl (Qt.move rfl) ?_
     refine LW.q rfl (Qt.move rfl) ?_
     refine LW.q rfl (Qt.remN n (2 ^ (k + 1)) rfl rfl rfl (by rw [Nat.one_mul]) (by omega)) ?_
     refine LW.q rfl (Qt.eql rfl rfl) ?_
     refine LW.done ?_
     first | refine T.condF rfl ?_ | refine T.condPF rfl (by omega) ?_ | refine T.condBF rfl (by omega) ?_
     refine T.skip ?_
     refine T.region ?_
     refine LW.q rfl (Qt.move rfl) ?_
     refine LW.q rfl (Qt.move rfl) ?_
     refine LW.q rfl (Qt.move rfl) ?_
     refine LW.q rfl (Qt.mulN 2 (2 ^ (k + 1)) rfl rfl rfl (by rw [Nat.one_mul]) (wr64_nat (by omega))) ?_
     refine LW.q rfl (Qt.quoN n (2 * 2 ^ (k + 1)) rfl rfl rfl rfl (by omega) (wr64_nat (by omega))) ?_
     refine LW.q rfl (Qt.move rfl) ?_
     refine LW.q rfl (Qt.mulN 2 (2 ^ (k + 1)) rfl rfl rfl (by rw [Nat.one_mul]) (wr64_nat (by omega))) ?_
     refine LW.q rfl (Qt.mulN (n / (2 * 2 ^ (k + 1))) (2 * 2 ^ (k + 1)) rfl rfl rfl rfl (wr64_nat (by omega))) ?_
     refine LW.q rfl (Qt.move rfl) ?_
     refine LW.q rfl (Qt.add (r := ((n / (2 * 2 ^ (k + 1)) * (2 * 2 ^ (k + 1)) + 2 ^ (k + 1) : Nat) : Int)) rfl rfl (by rw [Nat.one_mul, ← Int.natCast_add]; exact wr64_nat (by omega))) ?_
     refine LW.e rfl (Ef.one [_] (e := 2) (sz := 1) (by kernel_rfl) ⟨.int .i64 0, by kernel_rfl, rfl⟩ rfl rfl rfl (by omega) (by omega) ?_)
     intro g29
     refine LW.e rfl (Ef.append Ri.elemZ rfl rfl (SrcOf.blk (by kernel_rfl) rfl (by simp [Value.oneCell'])) (by unfold maxLen; omega) (by omega) ?_)
     rintro p2 c2 hp2
     try simp only [List.cons_append, List.nil_append]
     rw [show o.length + 1 = (o ++ [n / (2 * 2 ^ (k + 1)) * (2 * 2 ^ (k + 1)) + 2 ^ (k + 1)]).length by simp, show (zL o).map iV ++ [Value.int .i64 ((n / (2 * 2 ^ (k + 1)) * (2 * 2 ^ (k + 1)) + 2 ^ (k + 1) : Nat) : Int)] = (zL (o ++ [n / (2 * 2 ^ (k + 1)) * (2 * 2 ^ (k + 1)) + 2 ^ (k + 1)])).map iV by simp]
     refine LW.q rfl (Qt.assign rfl) ?_
     refine LW.done ?_
     refine T.region ?_
     refine LW.q rfl (Qt.move rfl) ?_
     refine LW.q rfl (Qt.add rfl rfl (wr64 (by omega) (by omega))) ?_
     refine LW.q rfl (Qt.assign rfl) ?_
     refine LW.done ?_
     refine ⟨_, ?_, _, ⟨_, k + 1, o ++ [n / (2 * 2 ^ (k + 1)) * (2 * 2 ^ (k + 1)) + 2 ^ (k + 1)], p2, c2, ⟨hk40, by rw [anc_low, hat, ho]⟩, rfl, (updS rfl (updS rfl (updS rfl rfl))), rfl⟩, Sub.any⟩
     first | omega | (simp; omega)
   ·
    obtain rfl : k = 40 := by omega
    have hol := flat_len40 n 40
    rw [← ho] at hol
    have hfin : ancN n = o ++ [0] := by unfold ancN; rw [if_neg h0', ho]; rfl
    refine T.exit ?_
    refine T.seq ?_
    refine T.region ?_
    refine LW.q rfl (Qt.move rfl) ?_
    refine LW.e rfl (Ef.one [_] (e := 2) (sz := 1) (by kernel_rfl) ⟨.int .i64 0, by kernel_rfl, rfl⟩ rfl rfl rfl (by omega) (by omega) ?_)
    intro g32
    refine LW.e rfl (Ef.append Ri.elemZ rfl rfl (SrcOf.blk (by kernel_rfl) rfl (by simp [Value.oneCell'])) (by unfold maxLen; omega) (by omega) ?_)
    rintro p2 c2 hp2
    try simp only [List.cons_append, List.nil_append]
    rw [show o.length + 1 = (ancN n).length by rw [hfin]; simp, show (zL o).map iV ++ [Value.int .i64 0] = (zL (ancN n)).map iV by rw [hfin]; simp]
    refine LW.q rfl (Qt.assign rfl) ?_
    refine LW.done ?_
    refine T.ret ?_
    exact ⟨.inl rfl, _, _, res [_] rfl ⟨rvT rfl, trivial⟩, ⟨p2, c2, rfl, rfl⟩, Sub.any⟩
theorem with_split {l : List Int} {x : Int} {i : Nat} (h : i < l.length) : withZ (l.drop i) x = if x < l[i] then x :: l[i] :: l.drop (i + 1) else l[i] :: withZ (l.drop (i + 1)) x := by
  rw [← List.getElem_cons_drop h]; rfl
set_option maxHeartbeats 2000000 in
set_option maxRecDepth 100000 in
theorem Ri.withF (B : Base) (S : List Assn) (v : Value) (xs : List Int) (x : Int) (hv : RdV B S v (xs.map iV)) (hn : xs.length < 2 ^ 40) : Fn Try.prog B 62 #[v, .int .i64 x] S (fun u l => ∃ p c, u = .slice p (withZ xs x).length c ∧ l = rZ p (withZ xs x).length c (withZ xs x) :: S) := by
 obtain ⟨a1, c1, rfl⟩ := hv.form (m := xs.length) (by simp)
 refine Fn.enter2 42 Try.func62 rfl rfl (Nat.le_of_ble_eq_true rfl) (fun F => ?_)
 try simp only [List.cons_append, List.nil_append]
 refine T.seq ?_
 refine T.region ?_
 refine LW.q rfl (Qt.assign rfl) ?_
 refine LW.done ?_
 refine T.seq ?_
 refine T.region ?_
 refine LW.q rfl (Qt.assign rfl) ?_
 refine LW.done ?_
 refine T.seq ?_
 refine T.region ?_
 refine LW.q rfl (Qt.assign rfl) ?_
 refine LW.done ?_
 refine T.seq ?_
 refine T.seq ?_
 refine T.region ?_
 refine LW.q rfl (Qt.assign rfl) ?_
 refine LW.done ?_
 refine T.block ?_
 refine T.conv (l' := rZ none ([] : List Int).length 0 [] :: (S ++ F)) (fun w ho => ho.row_nil _ _) ?_
 refine T.loop (fun mz fz lz => ∃ (f0 : Fr) (i : Nat) (dn : Bool) (o : List Int) (p : Option Addr) (cp : Nat), (i ≤ xs.length ∧ o ++ (if dn then xs.drop i else withZ (xs.drop i) x) = withZ xs x) ∧ mz = xs.length - i ∧ fz = (upd (upd (upd (upd (upd f0 0 (.slice a1 xs.length c1)) 1 (.int .i64 x)) 5 (.slice p o.length cp)) 6 (.bool dn)) 7 (.int .i64 i)) ∧ lz = rZ p o.length cp o :: (S ++ F)) ?_ ?_
 · refine ⟨_, _, ⟨_, 0, false, [], none, 0, ⟨Nat.zero_le _, rfl⟩, rfl, (updS rfl (updS rfl (updS rfl (updS rfl (updS rfl rfl))))), rfl⟩, Sub.any⟩
 ·
  rintro mz fz lz ⟨f0, i, dn, o, p, cp, ⟨hi, ho⟩, hmz, rfl, rfl⟩
  subst mz
  try simp only [List.cons_append, List.nil_append]
  have hol : o.length ≤ xs.length + 1 := by have h1 := congrArg List.length ho; rw [List.length_append, len_with] at h1; omega
  refine T.seq ?_
  refine T.seq ?_
  refine T.region ?_
  refine LW.q rfl (Qt.move rfl) ?_
  refine LW.q rfl (Qt.move rfl) ?_
  refine LW.q rfl (Qt.len (e := 2) (sz := 1) (by kernel_rfl) rfl) ?_
  refine LW.q rfl (Qt.lss rfl rfl) ?_
  refine LW.done ?_
  refine T.condP rfl (fun hlt => ?_) (fun hlt => ?_)
  ·
   have hx : i < xs.length := by omega
   obtain ⟨b1, o1, rfl, hc1⟩ := hv.at (m := xs.length) (by omega)
   refine T.skip ?_
   refine T.seq ?_
   refine T.block ?_
   refine T.cut (fun fz lz => ∃ (f0 : Fr) (dn : Bool) (o : List Int) (p : Option Addr) (cp : Nat), ((o ++ [xs[i]]) ++ (if dn then xs.drop (i + 1) else withZ (xs.drop (i + 1)) x) = withZ xs x) ∧ fz = (upd (upd (upd (upd (upd f0 0 (.slice (some ⟨b1, o1, none⟩) xs.length c1)) 1 (.int .i64 x)) 5 (.slice p o.length cp)) 6 (.bool dn)) 7 (.int .i64 i)) ∧ lz = rZ p o.length cp o :: (S ++ F)) ?_ ?_
   ·
    by_cases hdn : dn = true
    ·
     subst hdn
     refine T.seq ?_
     refine T.region ?_
     refine LW.q rfl (Qt.move rfl) ?_
     first | refine LW.q rfl (Qt.notP rfl) ?_ | refine LW.q rfl (Qt.notB rfl) ?_
     refine LW.q rfl (Qt.move rfl) ?_
     first | refine LW.gF (t := 16) rfl rfl ?_ | refine LW.gF (t := 16) rfl (decide_eq_false (by omega)) ?_ | refine LW.gF (t := 16) rfl (by omega) ?_
     refine LW.s rfl ?_
     refine LW.s rfl ?_
     refine LW.s rfl ?_
     refine LW.s rfl ?_
     refine LW.s rfl ?_
     refine LW.s rfl ?_
     refine LW.q rfl (Qt.pick rfl rfl) ?_
     refine LW.done ?_
     first | refine T.condF rfl ?_ | refine T.condPF rfl (by omega) ?_ | refine T.condBF rfl (by omega) ?_
     refine T.skip ?_
     exact ⟨_, ⟨_, true, o, p, cp, by rw [← ho, if_pos rfl, if_pos rfl, ← List.getElem_cons_drop hx, List.append_assoc]; rfl, (updS rfl (updS rfl (updS rfl (updS rfl (updS rfl rfl))))), rfl⟩, Sub.any⟩
    ·
     obtain rfl : dn = false := by simpa using hdn
     rw [if_neg (by simp), with_split hx] at ho
     refine T.seq ?_
     refine T.region ?_
     refine LW.q rfl (Qt.move rfl) ?_
     first | refine LW.q rfl (Qt.notP rfl) ?_ | refine LW.q rfl (Qt.notB rfl) ?_
     refine LW.q rfl (Qt.move rfl) ?_
     first | refine LW.gT (t := 16) rfl rfl ?_ | refine LW.gT (t := 16) rfl (decide_eq_true (by omega)) ?_ | refine LW.gT (t := 16) rfl (by omega) ?_
     refine LW.q rfl (Qt.move rfl) ?_
     refine LW.q rfl (Qt.move rfl) ?_
     refine LW.q rfl (Qt.move rfl) ?_
     refine LW.q rfl (Qt.index i (e := 2) (sz := 1) (by kernel_rfl) rfl rfl rfl hx) ?_
     refine LW.q rfl (Qt.loadW (v := iV xs[i]) (by kernel_rfl) rfl (fun w ho => by have := hc1 i (by simpa using hx) w (ho.map Sub.any); simpa using this)) ?_
     refine LW.q rfl (Qt.lss rfl rfl) ?_
     refine LW.q rfl (Qt.pick rfl rfl) ?_
     refine LW.done ?_
     refine T.condP rfl (fun hxl => ?_) (fun hxl => ?_)
     ·
      rw [if_pos hxl] at ho
      refine T.seq ?_
      refine T.region ?_
      refine LW.q rfl (Qt.move rfl) ?_
      refine LW.q rfl (Qt.move rfl) ?_
      refine LW.e rfl (Ef.one [_] (e := 2) (sz := 1) (by kernel_rfl) ⟨.int .i64 0, by kernel_rfl, rfl⟩ rfl rfl rfl (by omega) (by omega) ?_)
      intro g26
      refine LW.e rfl (Ef.append Ri.elemZ rfl rfl (SrcOf.blk (by kernel_rfl) rfl (by simp [Value.oneCell'])) (by unfold maxLen; omega) (by omega) ?_)
      rintro p2 c2 hp2
      try simp only [List.cons_append, List.nil_append]
      rw [show o.length + 1 = (o ++ [x]).length by simp, show o.map iV ++ [Value.int .i64 x] = (o ++ [x]).map iV by simp]
      refine LW.q rfl (Qt.assign rfl) ?_
      refine LW.done ?_
      refine T.region ?_
      refine LW.q rfl (Qt.assign rfl) ?_
      refine LW.done ?_
      exact ⟨_, ⟨_, true, o ++ [x], p2, c2, by rw [← ho, if_pos rfl]; simp, (updS rfl (updS rfl (updS rfl (updS rfl (updS rfl rfl))))), rfl⟩, Sub.any⟩
     ·
      rw [if_neg hxl] at ho
      refine T.skip ?_
      exact ⟨_, ⟨_, false, o, p, cp, by rw [← ho, if_neg (by simp)]; simp, (updS rfl (updS rfl (updS rfl (updS rfl (updS rfl rfl))))), rfl⟩, Sub.any⟩
   rintro fz lz ⟨f0, dn, o, p, cp, ho2, rfl, rfl⟩
   try simp only [List.cons_append, List.nil_append]
   have hol2 : o.length + 1 ≤ xs.length + 1 := by have h1 := congrArg List.length ho2; rw [List.length_append, List.length_append, len_with, List.length_singleton] at h1; omega
   refine T.region ?_
   refine LW.q rfl (Qt.move rfl) ?_
   refine LW.q rfl (Qt.move rfl) ?_
   refine LW.q rfl (Qt.move rfl) ?_
   refine LW.q rfl (Qt.index i (e := 2) (sz := 1) (by kernel_rfl) rfl rfl rfl hx) ?_
   refine LW.q rfl (Qt.loadW (v := iV xs[i]) (by kernel_rfl) rfl (fun w ho => by have := hc1 i (by simpa using hx) w (ho.map Sub.any); simpa using this)) ?_
   refine LW.e rfl (Ef.one [_] (e := 2) (sz := 1) (by kernel_rfl) ⟨.int .i64 0, by kernel_rfl, rfl⟩ rfl rfl rfl (by omega) (by omega) ?_)
   intro g33
   refine LW.e rfl (Ef.append Ri.elemZ rfl rfl (SrcOf.blk (by kernel_rfl) rfl (by simp [Value.oneCell'])) (by unfold maxLen; omega) (by omega) ?_)
   rintro p3 c3 hp3
   try simp only [List.cons_append, List.nil_append]
   rw [show o.length + 1 = (o ++ [xs[i]]).length by simp, show o.map iV ++ [iV xs[i]] = (o ++ [xs[i]]).map iV by simp]
   refine LW.q rfl (Qt.assign rfl) ?_
   refine LW.done ?_
   refine T.region ?_
   refine LW.q rfl (Qt.move rfl) ?_
   refine LW.q rfl (Qt.add rfl rfl (wr64 (by omega) (by omega))) ?_
   refine LW.q rfl (Qt.assign rfl) ?_
   refine LW.done ?_
   refine ⟨_, ?_, _, ⟨_, i + 1, dn, o ++ [xs[i]], p3, c3, ⟨by omega, ho2⟩, rfl, (updS rfl (updS rfl (updS rfl (updS rfl (updS rfl rfl))))), rfl⟩, Sub.any⟩
   first | omega | (simp; omega)
  ·
   obtain rfl : i = xs.length := by omega
   rw [List.drop_length] at ho
   by_cases hdn : dn = true
   ·
    subst hdn
    rw [if_pos rfl, List.append_nil] at ho
    refine T.exit ?_
    refine T.seq ?_
    refine T.seq ?_
    refine T.region ?_
    refine LW.q rfl (Qt.move rfl) ?_
    first | refine LW.q rfl (Qt.notP rfl) ?_ | refine LW.q rfl (Qt.notB rfl) ?_
    refine LW.done ?_
    first | refine T.condF rfl ?_ | refine T.condPF rfl (by omega) ?_ | refine T.condBF rfl (by omega) ?_
    refine T.skip ?_
    refine T.seq ?_
    refine T.region ?_
    refine LW.q rfl (Qt.move rfl) ?_
    refine LW.q rfl (Qt.assign rfl) ?_
    refine LW.done ?_
    refine T.ret ?_
    exact ⟨.inl rfl, _, _, res [_] rfl ⟨rvT rfl, trivial⟩, ⟨p, cp, by rw [← ho]; rfl, by rw [← ho]⟩, Sub.any⟩
   ·
    obtain rfl : dn = false := by simpa using hdn
    rw [if_neg (by simp)] at ho
    refine T.exit ?_
    refine T.seq ?_
    refine T.seq ?_
    refine T.region ?_
    refine LW.q rfl (Qt.move rfl) ?_
    first | refine LW.q rfl (Qt.notP rfl) ?_ | refine LW.q rfl (Qt.notB rfl) ?_
    refine LW.done ?_
    first | refine T.condT rfl ?_ | refine T.condPT rfl (by omega) ?_ | refine T.condBT rfl (by omega) ?_
    refine T.region ?_
    refine LW.q rfl (Qt.move rfl) ?_
    refine LW.q rfl (Qt.move rfl) ?_
    refine LW.e rfl (Ef.one [_] (e := 2) (sz := 1) (by kernel_rfl) ⟨.int .i64 0, by kernel_rfl, rfl⟩ rfl rfl rfl (by omega) (by omega) ?_)
    intro g39
    refine LW.e rfl (Ef.append Ri.elemZ rfl rfl (SrcOf.blk (by kernel_rfl) rfl (by simp [Value.oneCell'])) (by unfold maxLen; omega) (by omega) ?_)
    rintro p2 c2 hp2
    try simp only [List.cons_append, List.nil_append]
    rw [show o.length + 1 = (o ++ [x]).length by simp, show o.map iV ++ [Value.int .i64 x] = (o ++ [x]).map iV by simp, show o ++ [x] = withZ xs x from ho]
    refine LW.q rfl (Qt.assign rfl) ?_
    refine LW.done ?_
    refine T.seq ?_
    refine T.region ?_
    refine LW.q rfl (Qt.move rfl) ?_
    refine LW.q rfl (Qt.assign rfl) ?_
    refine LW.done ?_
    refine T.ret ?_
    exact ⟨.inl rfl, _, _, res [_] rfl ⟨rvT rfl, trivial⟩, ⟨p2, c2, rfl, rfl⟩, Sub.any⟩
end Go.Proofs.Ytefognjcognknaa

/- The document's Nodes; the law RitreeForks. Conditions: sizes. -/
set_option linter.unusedSimpArgs false
set_option linter.unusedVariables false
namespace Go.Proofs.Ytefognjcognknaa
open Go.RowKit
theorem RdV.rz {B : Base} {S : List Assn} {p : Option Addr} {m c : Nat} {l : List Int} (hm : l.length = m) (hp : 0 < m → ∃ g, p = some ⟨g, 0, none⟩) (hs : ∀ w, Own B w S → Own B w [rZ p m c l]) : RdV B S (.slice p m c) (l.map iV) := (RdV.ofRow (e := 2) (fun _ ho => ho.row_owns) (by simp [hm]) hp).mono hs
set_option maxHeartbeats 4000000 in
set_option maxRecDepth 100000 in
theorem Ri.rnodes (B : Base) (f t : Int) : Fn Try.prog B 30 #[pdV f t] [] (fun u l => ∃ p1 c1 p2 c2, u = .tuple #[.slice p1 (leftI f t).length c1, .slice p2 (rightI f t).length c2, .int .i64 (codeP f t)] ∧ l = [rZ p1 (leftI f t).length c1 (leftI f t), rZ p2 (rightI f t).length c2 (rightI f t)]) := by
 refine Fn.enter1 49 Try.func30 rfl rfl (Nat.le_of_ble_eq_true rfl) (fun F => ?_)
 try simp only [List.cons_append, List.nil_append]
 refine T.seq ?_
 refine T.region ?_
 refine LW.e rfl (Ef.box [_, _] rfl rfl ?_)
 intro g1
 refine LW.q rfl (Qt.assign rfl) ?_
 refine LW.q rfl (Qt.assign rfl) ?_
 refine LW.q rfl (Qt.assign rfl) ?_
 refine LW.done ?_
 refine T.seq ?_
 refine T.seq ?_
 refine T.region ?_
 first | refine LW.q rfl (Qt.loadAgg [_, _] (by kernel_rfl) rfl ⟨rfl, rfl, trivial⟩) ?_ | refine LW.q rfl (Qt.loadAgg [_, _] (by kernel_rfl) rfl (by exact rdl_flat _ _ _ (by intros; rfl) _ (by omega))) ?_
 refine LW.e rfl (Ef.call (Ri.right B f t) Try.func57 rfl rfl rfl ?_)
 rintro _ _ ⟨rfl, rfl⟩
 try simp only [List.cons_append, List.nil_append]
 by_cases h : okP f t
 ·
  first | refine LW.q rfl (Qt.notP rfl) ?_ | refine LW.q rfl (Qt.notB rfl) ?_
  refine LW.done ?_
  first | refine T.condF rfl ?_ | refine T.condPF rfl ((fun k => k h)) ?_ | refine T.condBF rfl ((fun k => k h)) ?_
  obtain ⟨a, b, rfl, rfl, hab, hb⟩ := okP_nat h
  have e1 : leftI (a : Int) b = leftZ a := by unfold leftI; rw [if_pos h, Int.toNat_natCast]
  have e2 : rightI (a : Int) b = rightZ b := by unfold rightI; rw [if_pos h, Int.toNat_natCast]
  have e3 : codeP (a : Int) b = 0 := by unfold codeP; rw [if_pos h]
  refine T.conv (l' := rZ none ([] : List Int).length 0 [] :: _) (fun w ho => ho.row_nil 2 1) ?_
  refine T.conv (l' := rZ none ([] : List Int).length 0 [] :: _) (fun w ho => ho.row_nil 2 1) ?_
  refine T.skip ?_
  refine T.seq ?_
  refine T.region ?_
  refine LW.q rfl (Qt.assign rfl) ?_
  refine LW.q rfl (Qt.assign rfl) ?_
  refine LW.done ?_
  refine T.seq ?_
  refine T.seq ?_
  refine T.region ?_
  refine LW.q rfl (Qt.fieldAddr0 (by kernel_rfl) rfl) ?_
  first | refine LW.q rfl (Qt.load (by kernel_rfl) rfl rfl) ?_ | refine LW.q rfl (Qt.load (by kernel_rfl) rfl (map_at _ _ _ (by omega))) ?_ | refine LW.q rfl (Qt.load (by kernel_rfl) rfl (flat_cell0 _ _ _ (by intros; rfl) _ (by omega) (by rfl))) ?_ | refine LW.q rfl (Qt.load (by kernel_rfl) rfl (flat_cell _ _ _ (by intros; rfl) _ _ (by omega) (by rfl))) ?_ | refine LW.q rfl (Qt.load (by kernel_rfl) rfl (bytes_at _ _ (by omega))) ?_
  refine LW.e rfl (Ef.call (Ri.ranc B a a rfl (by omega)) Try.func61 rfl rfl rfl ?_)
  rintro _ _ ⟨p5, c5, rfl, rfl⟩
  try simp only [List.cons_append, List.nil_append]
  have hEl := anc_len a
  obtain ⟨E, hE⟩ : ∃ E, E = ancN a := ⟨_, rfl⟩
  rw [← hE] at hEl ⊢
  refine LW.q rfl (Qt.len (e := 2) (sz := 1) (by kernel_rfl) rfl) ?_
  refine LW.q rfl (Qt.move rfl) ?_
  refine LW.done ?_
  refine T.block ?_
  refine T.loop (fun mz fz lz => ∃ (f0 : Fr) (i : Nat) (A : List Int) (p1 : Option Addr) (c1 : Nat), (i ≤ E.length ∧ A.length ≤ i ∧ A = allZ (rawL (E.take i) a)) ∧ mz = E.length - i ∧ fz = (upd (upd (upd (upd (upd (upd f0 1 (pV g1)) 5 (.slice p1 A.length c1)) 6 (.slice none 0 0)) 16 (.slice p5 E.length c5)) 17 (.int .i64 E.length)) 18 (.int .i64 i)) ∧ lz = rZ p5 E.length c5 (zL E) :: rZ p1 A.length c1 A :: rZ none ([] : List Int).length 0 [] :: blk g1 [.int .i64 a, .int .i64 b] 57 :: F) ?_ ?_
  · refine ⟨_, _, ⟨_, 0, [], none, 0, ⟨Nat.zero_le _, Nat.le_refl _, rfl⟩, rfl, (updS rfl (updS rfl (updS rfl (updS rfl (updS rfl (updS rfl rfl)))))), rfl⟩, Sub.any⟩
  ·
   rintro mz fz lz ⟨f0, i, A, p1, c1, ⟨hi, hAl, hA⟩, hmz, rfl, rfl⟩
   subst mz
   try simp only [List.cons_append, List.nil_append]
   refine T.seq ?_
   refine T.region ?_
   refine LW.q rfl (Qt.lss rfl rfl) ?_
   refine LW.done ?_
   refine T.seq ?_
   refine T.condP rfl (fun hlt => ?_) (fun hlt => ?_)
   ·
    have hix : i < E.length := by omega
    have hsn : E.take (i + 1) = E.take i ++ [E[i]] := List.take_succ_eq_append_getElem hix
    refine T.own fun w1 ho1 => ?_
    obtain ⟨g6, rfl⟩ := (ho1.slice_at (p := p5) (m := E.length) (c := c5) (k := E.length)).2.1 (by omega)
    have hp1 := (ho1.slice_at (p := p1) (m := A.length) (c := c1) (k := A.length)).2.1
    clear ho1
    by_cases hxl : E[i] < a
    ·
     refine T.skip ?_
     refine T.seq ?_
     refine T.block ?_
     refine T.seq ?_
     refine T.region ?_
     refine LW.q rfl (Qt.index i (e := 2) (sz := 1) (by kernel_rfl) rfl rfl rfl hix) ?_
     refine LW.q rfl (Qt.load (v := .int .i64 (E[i] : Nat)) (by kernel_rfl) rfl (by simp [hix])) ?_
     refine LW.q rfl (Qt.assign rfl) ?_
     refine LW.done ?_
     refine T.seq ?_
     refine T.region ?_
     refine LW.q rfl (Qt.move rfl) ?_
     refine LW.q rfl (Qt.fieldAddr0 (by kernel_rfl) rfl) ?_
     first | refine LW.q rfl (Qt.load (by kernel_rfl) rfl rfl) ?_ | refine LW.q rfl (Qt.load (by kernel_rfl) rfl (map_at _ _ _ (by omega))) ?_ | refine LW.q rfl (Qt.load (by kernel_rfl) rfl (flat_cell0 _ _ _ (by intros; rfl) _ (by omega) (by rfl))) ?_ | refine LW.q rfl (Qt.load (by kernel_rfl) rfl (flat_cell _ _ _ (by intros; rfl) _ _ (by omega) (by rfl))) ?_ | refine LW.q rfl (Qt.load (by kernel_rfl) rfl (bytes_at _ _ (by omega))) ?_
     refine LW.q rfl (Qt.lss rfl rfl) ?_
     refine LW.done ?_
     first | refine T.condT rfl ?_ | refine T.condPT rfl (by omega) ?_ | refine T.condBT rfl (by omega) ?_
     refine T.region ?_
     refine LW.q rfl (Qt.move rfl) ?_
     refine LW.q rfl (Qt.move rfl) ?_
     refine LW.e rfl (Ef.call (Ri.withF B [rZ p1 A.length c1 A] (.slice p1 A.length c1) A (E[i] : Nat) (RdV.rz rfl hp1 (fun w ho => ho)) (by omega)) Try.func62 rfl rfl rfl ?_)
     rintro _ _ ⟨p7, c7, rfl, rfl⟩
     try simp only [List.cons_append, List.nil_append]
     refine LW.q rfl (Qt.assign rfl) ?_
     refine LW.done ?_
     refine T.region ?_
     refine LW.q rfl (Qt.add rfl rfl (wr64 (by omega) (by omega))) ?_
     refine LW.q rfl (Qt.move rfl) ?_
     refine LW.done ?_
     refine ⟨_, ?_, _, ⟨_, i + 1, withZ A ((E[i] : Nat) : Int), p7, c7, ⟨by omega, by rw [len_with]; omega, by rw [hsn, rawL_snoc, if_pos hxl, all_snoc, ← hA]⟩, rfl, (updS rfl (updS rfl (updS rfl (updS rfl (updS rfl (updS rfl rfl)))))), rfl⟩, Sub.any⟩
     first | omega | (simp; omega)
    ·
     refine T.skip ?_
     refine T.seq ?_
     refine T.block ?_
     refine T.seq ?_
     refine T.region ?_
     refine LW.q rfl (Qt.index i (e := 2) (sz := 1) (by kernel_rfl) rfl rfl rfl hix) ?_
     refine LW.q rfl (Qt.load (v := .int .i64 (E[i] : Nat)) (by kernel_rfl) rfl (by simp [hix])) ?_
     refine LW.q rfl (Qt.assign rfl) ?_
     refine LW.done ?_
     refine T.seq ?_
     refine T.region ?_
     refine LW.q rfl (Qt.move rfl) ?_
     refine LW.q rfl (Qt.fieldAddr0 (by kernel_rfl) rfl) ?_
     first | refine LW.q rfl (Qt.load (by kernel_rfl) rfl rfl) ?_ | refine LW.q rfl (Qt.load (by kernel_rfl) rfl (map_at _ _ _ (by omega))) ?_ | refine LW.q rfl (Qt.load (by kernel_rfl) rfl (flat_cell0 _ _ _ (by intros; rfl) _ (by omega) (by rfl))) ?_ | refine LW.q rfl (Qt.load (by kernel_rfl) rfl (flat_cell _ _ _ (by intros; rfl) _ _ (by omega) (by rfl))) ?_ | refine LW.q rfl (Qt.load (by kernel_rfl) rfl (bytes_at _ _ (by omega))) ?_
     refine LW.q rfl (Qt.lss rfl rfl) ?_
     refine LW.done ?_
     first | refine T.condF rfl ?_ | refine T.condPF rfl (by omega) ?_ | refine T.condBF rfl (by omega) ?_
     refine T.skip ?_
     refine T.region ?_
     refine LW.q rfl (Qt.add rfl rfl (wr64 (by omega) (by omega))) ?_
     refine LW.q rfl (Qt.move rfl) ?_
     refine LW.done ?_
     refine ⟨_, ?_, _, ⟨_, i + 1, A, p1, c1, ⟨by omega, by omega, by rw [hsn, rawL_snoc, if_neg hxl, ← hA]⟩, rfl, (updS rfl (updS rfl (updS rfl (updS rfl (updS rfl (updS rfl rfl)))))), rfl⟩, Sub.any⟩
     first | omega | (simp; omega)
   ·
    rw [List.take_of_length_le (by omega), hE] at hA
    have hA2 : A = leftZ a := hA
    subst hA2
    refine T.exit ?_
    refine T.seq ?_
    refine T.seq ?_
    refine T.region ?_
    refine LW.q rfl (Qt.fieldAddr (off := 1) (by kernel_rfl) rfl) ?_
    first | refine LW.q rfl (Qt.load (by kernel_rfl) rfl rfl) ?_ | refine LW.q rfl (Qt.load (by kernel_rfl) rfl (map_at _ _ _ (by omega))) ?_ | refine LW.q rfl (Qt.load (by kernel_rfl) rfl (flat_cell0 _ _ _ (by intros; rfl) _ (by omega) (by rfl))) ?_ | refine LW.q rfl (Qt.load (by kernel_rfl) rfl (flat_cell _ _ _ (by intros; rfl) _ _ (by omega) (by rfl))) ?_ | refine LW.q rfl (Qt.load (by kernel_rfl) rfl (bytes_at _ _ (by omega))) ?_
    refine LW.q rfl (Qt.sub (r := ((b - 1 : Nat) : Int)) rfl rfl (by rw [wr64 (by omega) (by omega)]; omega)) ?_
    refine LW.e rfl (Ef.call (Ri.ranc B (b - 1) (b - 1 : Nat) rfl (by omega)) Try.func61 rfl rfl rfl ?_)
    rintro _ _ ⟨p8, c8, rfl, rfl⟩
    try simp only [List.cons_append, List.nil_append]
    have hGl := anc_len (b - 1)
    obtain ⟨G, hG⟩ : ∃ G, G = ancN (b - 1) := ⟨_, rfl⟩
    rw [← hG] at hGl ⊢
    refine LW.q rfl (Qt.len (e := 2) (sz := 1) (by kernel_rfl) rfl) ?_
    refine LW.q rfl (Qt.move rfl) ?_
    refine LW.done ?_
    refine T.block ?_
    refine T.loop (fun mz fz lz => ∃ (f0 : Fr) (i : Nat) (A : List Int) (p2 : Option Addr) (c2 : Nat), (i ≤ G.length ∧ A.length ≤ i ∧ A = allZ (rawR (G.take i) b)) ∧ mz = G.length - i ∧ fz = (upd (upd (upd (upd (upd (upd f0 1 (pV g1)) 5 (.slice p1 (leftZ a).length c1)) 6 (.slice p2 A.length c2)) 33 (.slice p8 G.length c8)) 34 (.int .i64 G.length)) 35 (.int .i64 i)) ∧ lz = rZ p8 G.length c8 (zL G) :: rZ p2 A.length c2 A :: rZ p1 (leftZ a).length c1 (leftZ a) :: blk g1 [.int .i64 a, .int .i64 b] 57 :: F) ?_ ?_
    · refine ⟨_, _, ⟨_, 0, [], none, 0, ⟨Nat.zero_le _, Nat.le_refl _, rfl⟩, rfl, (updS rfl (updS rfl (updS rfl (updS rfl (updS rfl (updS rfl rfl)))))), rfl⟩, Sub.any⟩
    ·
     rintro mz fz lz ⟨f0, i, A, p2, c2, ⟨hi, hAl, hA⟩, hmz, rfl, rfl⟩
     subst mz
     try simp only [List.cons_append, List.nil_append]
     refine T.seq ?_
     refine T.region ?_
     refine LW.q rfl (Qt.lss rfl rfl) ?_
     refine LW.done ?_
     refine T.seq ?_
     refine T.condP rfl (fun hlt2 => ?_) (fun hlt2 => ?_)
     ·
      have hix : i < G.length := by omega
      have hsn : G.take (i + 1) = G.take i ++ [G[i]] := List.take_succ_eq_append_getElem hix
      refine T.own fun w1 ho1 => ?_
      obtain ⟨g6, rfl⟩ := (ho1.slice_at (p := p8) (m := G.length) (c := c8) (k := G.length)).2.1 (by omega)
      have hp2 := (ho1.slice_at (p := p2) (m := A.length) (c := c2) (k := A.length)).2.1
      clear ho1
      by_cases hxl : b ≤ G[i]
      ·
       refine T.skip ?_
       refine T.seq ?_
       refine T.block ?_
       refine T.seq ?_
       refine T.region ?_
       refine LW.q rfl (Qt.index i (e := 2) (sz := 1) (by kernel_rfl) rfl rfl rfl hix) ?_
       refine LW.q rfl (Qt.load (v := .int .i64 (G[i] : Nat)) (by kernel_rfl) rfl (by simp [hix])) ?_
       refine LW.q rfl (Qt.assign rfl) ?_
       refine LW.done ?_
       refine T.seq ?_
       refine T.region ?_
       refine LW.q rfl (Qt.move rfl) ?_
       refine LW.q rfl (Qt.fieldAddr (off := 1) (by kernel_rfl) rfl) ?_
       first | refine LW.q rfl (Qt.load (by kernel_rfl) rfl rfl) ?_ | refine LW.q rfl (Qt.load (by kernel_rfl) rfl (map_at _ _ _ (by omega))) ?_ | refine LW.q rfl (Qt.load (by kernel_rfl) rfl (flat_cell0 _ _ _ (by intros; rfl) _ (by omega) (by rfl))) ?_ | refine LW.q rfl (Qt.load (by kernel_rfl) rfl (flat_cell _ _ _ (by intros; rfl) _ _ (by omega) (by rfl))) ?_ | refine LW.q rfl (Qt.load (by kernel_rfl) rfl (bytes_at _ _ (by omega))) ?_
       refine LW.q rfl (Qt.geq rfl rfl) ?_
       refine LW.done ?_
       first | refine T.condT rfl ?_ | refine T.condPT rfl (by omega) ?_ | refine T.condBT rfl (by omega) ?_
       refine T.region ?_
       refine LW.q rfl (Qt.move rfl) ?_
       refine LW.q rfl (Qt.move rfl) ?_
       refine LW.e rfl (Ef.call (Ri.withF B [rZ p2 A.length c2 A] (.slice p2 A.length c2) A (G[i] : Nat) (RdV.rz rfl hp2 (fun w ho => ho)) (by omega)) Try.func62 rfl rfl rfl ?_)
       rintro _ _ ⟨p7, c7, rfl, rfl⟩
       try simp only [List.cons_append, List.nil_append]
       refine LW.q rfl (Qt.assign rfl) ?_
       refine LW.done ?_
       refine T.region ?_
       refine LW.q rfl (Qt.add rfl rfl (wr64 (by omega) (by omega))) ?_
       refine LW.q rfl (Qt.move rfl) ?_
       refine LW.done ?_
       refine ⟨_, ?_, _, ⟨_, i + 1, withZ A ((G[i] : Nat) : Int), p7, c7, ⟨by omega, by rw [len_with]; omega, by rw [hsn, rawR_snoc, if_pos hxl, all_snoc, ← hA]⟩, rfl, (updS rfl (updS rfl (updS rfl (updS rfl (updS rfl (updS rfl rfl)))))), rfl⟩, Sub.any⟩
       first | omega | (simp; omega)
      ·
       refine T.skip ?_
       refine T.seq ?_
       refine T.block ?_
       refine T.seq ?_
       refine T.region ?_
       refine LW.q rfl (Qt.index i (e := 2) (sz := 1) (by kernel_rfl) rfl rfl rfl hix) ?_
       refine LW.q rfl (Qt.load (v := .int .i64 (G[i] : Nat)) (by kernel_rfl) rfl (by simp [hix])) ?_
       refine LW.q rfl (Qt.assign rfl) ?_
       refine LW.done ?_
       refine T.seq ?_
       refine T.region ?_
       refine LW.q rfl (Qt.move rfl) ?_
       refine LW.q rfl (Qt.fieldAddr (off := 1) (by kernel_rfl) rfl) ?_
       first | refine LW.q rfl (Qt.load (by kernel_rfl) rfl rfl) ?_ | refine LW.q rfl (Qt.load (by kernel_rfl) rfl (map_at _ _ _ (by omega))) ?_ | refine LW.q rfl (Qt.load (by kernel_rfl) rfl (flat_cell0 _ _ _ (by intros; rfl) _ (by omega) (by rfl))) ?_ | refine LW.q rfl (Qt.load (by kernel_rfl) rfl (flat_cell _ _ _ (by intros; rfl) _ _ (by omega) (by rfl))) ?_ | refine LW.q rfl (Qt.load (by kernel_rfl) rfl (bytes_at _ _ (by omega))) ?_
       refine LW.q rfl (Qt.geq rfl rfl) ?_
       refine LW.done ?_
       first | refine T.condF rfl ?_ | refine T.condPF rfl (by omega) ?_ | refine T.condBF rfl (by omega) ?_
       refine T.skip ?_
       refine T.region ?_
       refine LW.q rfl (Qt.add rfl rfl (wr64 (by omega) (by omega))) ?_
       refine LW.q rfl (Qt.move rfl) ?_
       refine LW.done ?_
       refine ⟨_, ?_, _, ⟨_, i + 1, A, p2, c2, ⟨by omega, by omega, by rw [hsn, rawR_snoc, if_neg hxl, ← hA]⟩, rfl, (updS rfl (updS rfl (updS rfl (updS rfl (updS rfl (updS rfl rfl)))))), rfl⟩, Sub.any⟩
       first | omega | (simp; omega)
     ·
      rw [List.take_of_length_le (by omega), hG] at hA
      have hA2 : A = rightZ b := hA
      subst hA2
      refine T.exit ?_
      refine T.seq ?_
      refine T.region ?_
      refine LW.q rfl (Qt.move rfl) ?_
      refine LW.q rfl (Qt.move rfl) ?_
      refine LW.q rfl (Qt.assign rfl) ?_
      refine LW.q rfl (Qt.assign rfl) ?_
      refine LW.q rfl (Qt.assign rfl) ?_
      refine LW.done ?_
      refine T.ret ?_
      exact ⟨.inl rfl, _, _, res [_, _, _] rfl ⟨rvT rfl, rvT rfl, rvT rfl, trivial⟩, ⟨p1, c1, p2, c2, by rw [e1, e2, e3]; rfl, by rw [e1, e2]⟩, Sub.any⟩
 ·
  first | refine LW.q rfl (Qt.notP rfl) ?_ | refine LW.q rfl (Qt.notB rfl) ?_
  refine LW.done ?_
  first | refine T.condT rfl ?_ | refine T.condPT rfl ((h)) ?_ | refine T.condBT rfl ((h)) ?_
  have e1 : leftI f t = [] := by unfold leftI; rw [if_neg h]
  have e2 : rightI f t = [] := by unfold rightI; rw [if_neg h]
  have e3 : codeP f t = 40 := by unfold codeP; rw [if_neg h]
  refine T.conv (l' := rZ none ([] : List Int).length 0 [] :: _) (fun w ho => ho.row_nil 2 1) ?_
  refine T.conv (l' := rZ none ([] : List Int).length 0 [] :: _) (fun w ho => ho.row_nil 2 1) ?_
  refine T.seq ?_
  refine T.region ?_
  refine LW.q rfl (Qt.assign rfl) ?_
  refine LW.q rfl (Qt.assign rfl) ?_
  refine LW.q rfl (Qt.assign rfl) ?_
  refine LW.done ?_
  refine T.ret ?_
  exact ⟨.inl rfl, _, _, res [_, _, _] rfl ⟨rvT rfl, rvT rfl, rvT rfl, trivial⟩, ⟨none, 0, none, 0, by rw [e1, e2, e3]; rfl, by rw [e1, e2]⟩, Sub.any⟩
theorem rz_any {B : Base} {p1 p2 : Option Addr} {c1 c2 : Nat} {l : List Int} (hp1 : 0 < l.length → ∃ g, p1 = some ⟨g, 0, none⟩) (hp2 : 0 < l.length → ∃ g, p2 = some ⟨g, 0, none⟩) (hn : l.length < 2 ^ 40) : Fn Try.prog B 31 #[.slice p1 l.length c1, .slice p2 l.length c2] [rZ p1 l.length c1 l, rZ p2 l.length c2 l] (fun u k => u = .bool true ∧ k = [rZ p1 l.length c1 l, rZ p2 l.length c2 l]) := by
  have := Ri.longs B [rZ p1 l.length c1 l, rZ p2 l.length c2 l] (.slice p1 l.length c1) (.slice p2 l.length c2) l l (RdV.rz rfl hp1 (fun w ho => ho.map Sub.any)) (RdV.rz rfl hp2 (fun w ho => ho.map Sub.any)) hn hn
  rw [decide_eq_true rfl] at this
  exact this
set_option maxHeartbeats 4000000 in
set_option maxRecDepth 100000 in
theorem Ri.forks (B : Base) (f t : Int) : Fn Try.prog B 7 #[pdV f t] [] (fun u l => u = .bool true ∧ l = []) := by
  have hl1 : (leftI f t).length ≤ 41 := by unfold leftI; split; exact (left_spec _).2.2; simp
  have hl2 : (rightI f t).length ≤ 41 := by unfold rightI; split; exact (right_spec _).2.2; simp
  refine Fn.enter1 60 Try.func7 rfl rfl (Nat.le_of_ble_eq_true rfl) (fun F => ?_)
  try simp only [List.cons_append, List.nil_append]
  refine T.seq ?_
  refine T.region ?_
  refine LW.e rfl (Ef.box [_, _] rfl rfl ?_)
  intro g1
  refine LW.q rfl (Qt.assign rfl) ?_
  refine LW.done ?_
  refine T.seq ?_
  refine T.seq ?_
  refine T.region ?_
  refine LW.e rfl (Ef.call (Ri.awake B) Try.func26 rfl rfl rfl ?_)
  rintro _ _ ⟨rfl, rfl⟩
  try simp only [List.cons_append, List.nil_append]
  first | refine LW.q rfl (Qt.notP rfl) ?_ | refine LW.q rfl (Qt.notB rfl) ?_
  refine LW.done ?_
  first | refine T.condF rfl ?_ | refine T.condPF rfl (by omega) ?_ | refine T.condBF rfl (by omega) ?_
  refine T.skip ?_
  refine T.seq ?_
  refine T.region ?_
  first | refine LW.q rfl (Qt.loadAgg [_, _] (by kernel_rfl) rfl ⟨rfl, rfl, trivial⟩) ?_ | refine LW.q rfl (Qt.loadAgg [_, _] (by kernel_rfl) rfl (by exact rdl_flat _ _ _ (by intros; rfl) _ (by omega))) ?_
  refine LW.e rfl (Ef.call (Ri.forkA B f t) Try.func27 rfl rfl rfl ?_)
  rintro _ _ ⟨rfl, rfl⟩
  try simp only [List.cons_append, List.nil_append]
  refine LW.q rfl (Qt.move rfl) ?_
  refine LW.q rfl (Qt.extr rfl rfl) ?_
  refine LW.q rfl (Qt.extr rfl rfl) ?_
  refine LW.q rfl (Qt.assign rfl) ?_
  refine LW.q rfl (Qt.assign rfl) ?_
  refine LW.done ?_
  refine T.seq ?_
  refine T.region ?_
  first | refine LW.q rfl (Qt.loadAgg [_, _] (by kernel_rfl) rfl ⟨rfl, rfl, trivial⟩) ?_ | refine LW.q rfl (Qt.loadAgg [_, _] (by kernel_rfl) rfl (by exact rdl_flat _ _ _ (by intros; rfl) _ (by omega))) ?_
  refine LW.e rfl (Ef.call (Ri.rfork B f t) Try.func28 rfl rfl rfl ?_)
  rintro _ _ ⟨rfl, rfl⟩
  try simp only [List.cons_append, List.nil_append]
  refine LW.q rfl (Qt.move rfl) ?_
  refine LW.q rfl (Qt.extr rfl rfl) ?_
  refine LW.q rfl (Qt.extr rfl rfl) ?_
  refine LW.q rfl (Qt.assign rfl) ?_
  refine LW.q rfl (Qt.assign rfl) ?_
  refine LW.done ?_
  refine T.seq ?_
  refine T.region ?_
  first | refine LW.q rfl (Qt.loadAgg [_, _] (by kernel_rfl) rfl ⟨rfl, rfl, trivial⟩) ?_ | refine LW.q rfl (Qt.loadAgg [_, _] (by kernel_rfl) rfl (by exact rdl_flat _ _ _ (by intros; rfl) _ (by omega))) ?_
  refine LW.e rfl (Ef.call (Ri.nodesA B f t) Try.func29 rfl rfl rfl ?_)
  rintro _ _ ⟨p1, c1, p2, c2, rfl, rfl⟩
  try simp only [List.cons_append, List.nil_append]
  refine LW.q rfl (Qt.move rfl) ?_
  refine LW.q rfl (Qt.extr rfl rfl) ?_
  refine LW.q rfl (Qt.extr rfl rfl) ?_
  refine LW.q rfl (Qt.extr rfl rfl) ?_
  refine LW.q rfl (Qt.assign rfl) ?_
  refine LW.q rfl (Qt.assign rfl) ?_
  refine LW.q rfl (Qt.assign rfl) ?_
  refine LW.done ?_
  refine T.seq ?_
  refine T.region ?_
  first | refine LW.q rfl (Qt.loadAgg [_, _] (by kernel_rfl) rfl ⟨rfl, rfl, trivial⟩) ?_ | refine LW.q rfl (Qt.loadAgg [_, _] (by kernel_rfl) rfl (by exact rdl_flat _ _ _ (by intros; rfl) _ (by omega))) ?_
  refine LW.e rfl (Ef.call (Ri.rnodes B f t) Try.func30 rfl rfl rfl ?_)
  rintro _ _ ⟨p3, c3, p4, c4, rfl, rfl⟩
  try simp only [List.cons_append, List.nil_append]
  refine LW.own fun w1 ho1 => ?_
  have hp1 := (ho1.slice_at (p := p1) (m := (leftI f t).length) (c := c1) (k := (leftI f t).length)).2.1
  have hp2 := (ho1.slice_at (p := p2) (m := (rightI f t).length) (c := c2) (k := (rightI f t).length)).2.1
  have hp3 := (ho1.slice_at (p := p3) (m := (leftI f t).length) (c := c3) (k := (leftI f t).length)).2.1
  have hp4 := (ho1.slice_at (p := p4) (m := (rightI f t).length) (c := c4) (k := (rightI f t).length)).2.1
  clear ho1
  refine LW.q rfl (Qt.move rfl) ?_
  refine LW.q rfl (Qt.extr rfl rfl) ?_
  refine LW.q rfl (Qt.extr rfl rfl) ?_
  refine LW.q rfl (Qt.extr rfl rfl) ?_
  refine LW.q rfl (Qt.assign rfl) ?_
  refine LW.q rfl (Qt.assign rfl) ?_
  refine LW.q rfl (Qt.assign rfl) ?_
  refine LW.done ?_
  refine T.seq ?_
  refine T.region ?_
  refine LW.q rfl (Qt.move rfl) ?_
  refine LW.q rfl (Qt.move rfl) ?_
  refine LW.q rfl (Qt.eql rfl rfl) ?_
  refine LW.q rfl (Qt.move rfl) ?_
  first | refine LW.gT (t := 40) rfl rfl ?_ | refine LW.gT (t := 40) rfl (decide_eq_true (by omega)) ?_ | refine LW.gT (t := 40) rfl (by omega) ?_
  refine LW.q rfl (Qt.move rfl) ?_
  refine LW.q rfl (Qt.move rfl) ?_
  refine LW.q rfl (Qt.eql rfl rfl) ?_
  refine LW.q rfl (Qt.pick rfl rfl) ?_
  refine LW.q rfl (Qt.move rfl) ?_
  first | refine LW.gT (t := 45) rfl rfl ?_ | refine LW.gT (t := 45) rfl (decide_eq_true (by omega)) ?_ | refine LW.gT (t := 45) rfl (by omega) ?_
  refine LW.q rfl (Qt.move rfl) ?_
  refine LW.q rfl (Qt.move rfl) ?_
  refine LW.e rfl (Ef.call (rz_any (c1 := c1) (c2 := c3) hp1 hp3 (by omega)) Try.func31 rfl rfl rfl ?_)
  rintro _ _ ⟨rfl, rfl⟩
  try simp only [List.cons_append, List.nil_append]
  refine LW.q rfl (Qt.pick rfl rfl) ?_
  refine LW.q rfl (Qt.move rfl) ?_
  first | refine LW.gT (t := 50) rfl rfl ?_ | refine LW.gT (t := 50) rfl (decide_eq_true (by omega)) ?_ | refine LW.gT (t := 50) rfl (by omega) ?_
  refine LW.q rfl (Qt.move rfl) ?_
  refine LW.q rfl (Qt.move rfl) ?_
  refine LW.e rfl (Ef.call (rz_any (c1 := c2) (c2 := c4) hp2 hp4 (by omega)) Try.func31 rfl rfl rfl ?_)
  rintro _ _ ⟨rfl, rfl⟩
  try simp only [List.cons_append, List.nil_append]
  refine LW.q rfl (Qt.pick rfl rfl) ?_
  refine LW.q rfl (Qt.move rfl) ?_
  first | refine LW.gT (t := 55) rfl rfl ?_ | refine LW.gT (t := 55) rfl (decide_eq_true (by omega)) ?_ | refine LW.gT (t := 55) rfl (by omega) ?_
  refine LW.q rfl (Qt.move rfl) ?_
  refine LW.q rfl (Qt.move rfl) ?_
  refine LW.q rfl (Qt.eql rfl rfl) ?_
  refine LW.q rfl (Qt.pick rfl rfl) ?_
  refine LW.q rfl (Qt.assign rfl) ?_
  refine LW.done ?_
  refine T.ret ?_
  exact ⟨.inl rfl, _, _, res [_] rfl ⟨rvT rfl, trivial⟩, ⟨by simp [outV], rfl⟩, Sub.any⟩
end Go.Proofs.Ytefognjcognknaa

/- The laws of ritree: RitreeEmpties. Conditions: that the periods can be read; sizes. -/
set_option linter.unusedSimpArgs false
set_option linter.unusedVariables false
namespace Go.Proofs.Ytefognjcognknaa
open Go.RowKit
theorem look_snoc (k j : Int) (v : Nat × Nat) : ∀ M : List PE, lookM (M ++ [(k, v)]) j = if (lookM M j).isSome then lookM M j else if k = j then some v else none
  | [] => by simp [lookM]
  | p :: M => by
    show lookM (p :: (M ++ [(k, v)])) j = _
    unfold lookM
    split
    · simp
    · exact look_snoc k j v M
/-- Which numbers a tree has. -/
def HasZ (M : List PE) (lo hi : Nat) (xs : List (Int × Int)) : Prop := (∀ e ∈ M, (lo : Int) ≤ e.1 ∧ e.1 < hi) ∧ ∀ (j : Nat) (h : j < xs.length), lo ≤ j → j < hi → ((lookM M j).isSome = true ↔ okP xs[j].1 xs[j].2)
theorem look_none {M : List PE} {k : Int} (h : ∀ e ∈ M, e.1 ≠ k) : lookM M k = none := by
  cases hl : lookM M k with
  | none => rfl
  | some v => exact absurd rfl (h _ (lookL_mem hl))
theorem HasZ.add {M : List PE} {i : Nat} {xs : List (Int × Int)} (h : HasZ M 0 i xs) (hi : i < xs.length) : HasZ (addM M i xs[i].1 xs[i].2) 0 (i + 1) xs ∧ addCode M i xs[i].1 xs[i].2 = codeP xs[i].1 xs[i].2 := by
  have hn : lookM M (i : Int) = none := look_none fun e he k => by have := h.1 e he; omega
  unfold addM addCode codeP
  rw [hn]
  by_cases hok : okP xs[i].1 xs[i].2
  · rw [if_pos ⟨hok, rfl⟩, if_pos hok, if_pos hok]
    refine ⟨⟨fun e he => ?_, fun j hj _ hlt => ?_⟩, rfl⟩
    · rcases List.mem_append.1 he with he | he
      · have := h.1 e he; omega
      · rw [List.mem_singleton.1 he]; simp only; omega
    · rw [look_snoc]
      by_cases e : j = i
      · subst e; rw [hn]; simp; exact hok
      · have := h.2 j hj (by omega) (by omega)
        have e2 : ¬ ((i : Int) = (j : Int)) := by omega
        rw [if_neg e2]
        split
        · exact this
        · rename_i hs
          rw [← this]
          simp [hs]
  · rw [if_neg (fun k => hok k.1), if_neg hok, if_neg hok]
    refine ⟨⟨fun e he => by have := h.1 e he; omega, fun j hj _ hlt => ?_⟩, rfl⟩
    by_cases e : j = i
    · subst e; rw [hn]; simp [hok]
    · exact h.2 j hj (by omega) (by omega)
theorem HasZ.done {M : List PE} {n : Nat} {xs : List (Int × Int)} (h : HasZ M n n xs) : M = [] := by
  rcases M with _ | ⟨e, M⟩
  · rfl
  · have := h.1 e (List.mem_cons_self ..); omega
end Go.Proofs.Ytefognjcognknaa

/- The document's list of periods; the laws' step; RitreePlays. Conditions: that the script can be read; sizes. -/
set_option linter.unusedSimpArgs false
set_option linter.unusedVariables false
namespace Go.Proofs.Ytefognjcognknaa
open Go.RowKit
abbrev itC (e : PE) : List Value := [.int .i64 e.1, .int .i64 e.2.1, .int .i64 e.2.2]
abbrev rI (p : Option Addr) (m c : Nat) (M : List PE) : Assn := row (.slice p m c) 150 3 m (M.flatMap itC)
theorem SrcOf.tailR {P : Program} {B : Base} {l : List Assn} {tx sz g m c lo cap : Nat} {C : List Value} [k : Rd B g l C] (hk : sliceZ P tx sz = true) (hl : C.length = m * sz) (hlo : lo ≤ m) (hc : m ≤ c) (h1 : ∀ x ∈ C, x.oneCell' = true) : SrcOf P B l sz tx (.slice (offA (some ⟨g, 0, none⟩) c lo sz) (m - lo) cap) (m - lo) (C.drop (lo * sz)) := by
  have h2 : ∀ x ∈ C.drop (lo * sz), x.oneCell' = true := fun x hx => h1 x (List.mem_of_mem_drop hx)
  have h3 : (C.drop (lo * sz)).length = (m - lo) * sz := by rw [List.length_drop, hl, Nat.sub_mul]
  by_cases e : c = lo
  · have : offA (some ⟨g, 0, none⟩) c lo sz = some ⟨g, 0, none⟩ := by unfold offA; rw [if_pos e]
    rw [this]
    obtain rfl : m = lo := by omega
    refine SrcOf.cells (g := g) (o := 0) hk (fun j v h => ?_) h3 h2
    have : C.drop (m * sz) = [] := by rw [List.drop_eq_nil_iff]; omega
    rw [this] at h; simp at h
  · rw [offA_some e]
    refine SrcOf.cells (g := g) (o := 0 + lo * sz) hk (fun j v h => ?_) h3 h2
    rw [List.getElem?_drop] at h
    rw [Nat.zero_add]; exact h
theorem SrcOf.headR {P : Program} {B : Base} {l : List Assn} {tx sz g m hi cap : Nat} {C : List Value} [k : Rd B g l C] (hk : sliceZ P tx sz = true) (hl : C.length = m * sz) (hhi : hi ≤ m) (h1 : ∀ x ∈ C, x.oneCell' = true) : SrcOf P B l sz tx (.slice (some ⟨g, 0, none⟩) hi cap) hi (C.take (hi * sz)) := by
  refine SrcOf.cells (g := g) (o := 0) hk (fun j v h => ?_) ?_ (fun x hx => h1 x (List.mem_of_mem_take hx))
  · rw [List.getElem?_take] at h
    split at h
    · rw [Nat.zero_add]; exact h
    · cases h
  · rw [List.length_take, hl]
    exact Nat.min_eq_left (Nat.mul_le_mul_right _ hhi)
theorem Ri.elemT : ElemOk Try.prog 83 150 3 24 := .mk' (.agg #[.int .i64 0, .int .i64 0, .int .i64 0]) (by kernel_rfl) (by kernel_rfl) rfl (by decide)
theorem one_it {M : List PE} : ∀ v ∈ M.flatMap itC, v.oneCell' = true := by
  intro v hv
  obtain ⟨e, _, hv⟩ := List.mem_flatMap.1 hv
  simp at hv
  rcases hv with rfl | rfl | rfl <;> rfl
theorem it_len (M : List PE) : (M.flatMap itC).length = M.length * 3 := by
  induction M with
  | nil => rfl
  | cons a M ih => rw [List.flatMap_cons, List.length_append, ih]; simp only [List.length_cons, List.length_nil]; omega
theorem it_take : ∀ (M : List PE) (i : Nat), (M.flatMap itC).take (i * 3) = (M.take i).flatMap itC
  | [], i => by simp
  | a :: M, 0 => by simp
  | a :: M, i + 1 => by
    rw [List.take_succ_cons, List.flatMap_cons, List.flatMap_cons, ← it_take M i, show (i + 1) * 3 = i * 3 + 1 + 1 + 1 by omega]
    rfl
theorem it_drop : ∀ (M : List PE) (i : Nat), (M.flatMap itC).drop (i * 3) = (M.drop i).flatMap itC
  | [], i => by simp
  | a :: M, 0 => by simp
  | a :: M, i + 1 => by
    rw [List.drop_succ_cons, List.flatMap_cons, ← it_drop M i, show (i + 1) * 3 = i * 3 + 1 + 1 + 1 by omega]
    rfl
/-- The place of a number, or -1. -/
def findI : List PE → Int → Int
  | [], _ => -1
  | e :: M, id => if e.1 = id then 0 else if findI M id < 0 then -1 else findI M id + 1
theorem find_at {id : Int} : ∀ {M : List PE} {i : Nat} (h : i < M.length), M[i].1 = id → (∀ (j : Nat) (hj : j < M.length), j < i → M[j].1 ≠ id) → findI M id = i
  | [], _, h, _, _ => by simp at h
  | e :: M, 0, _, h1, _ => by
    have h1' : e.1 = id := h1
    unfold findI; rw [if_pos h1']; rfl
  | e :: M, i + 1, h, h1, h2 => by
    have h3 : e.1 ≠ id := h2 0 (by simp) (by omega)
    have ih := find_at (M := M) (i := i) (by simpa using h) h1 (fun j hj hlt => by have := h2 (j + 1) (by simpa using hj) (by omega); simpa using this)
    unfold findI
    rw [if_neg h3, if_neg (by omega), ih]; simp
theorem find_none {id : Int} : ∀ {M : List PE}, (∀ (j : Nat) (hj : j < M.length), M[j].1 ≠ id) → findI M id = -1
  | [], _ => rfl
  | e :: M, h => by
    have h0 : e.1 ≠ id := h 0 (by simp)
    have ih := find_none (M := M) fun j hj => by have := h (j + 1) (by simpa using hj); simpa using this
    unfold findI
    rw [if_neg h0, if_pos (by omega)]
theorem find_look {id : Int} : ∀ {M : List PE}, (0 ≤ findI M id ↔ (lookM M id).isSome = true)
  | [] => by simp [findI, lookM]
  | e :: M => by
    have ih := find_look (M := M) (id := id)
    unfold findI lookM
    split
    · simp
    · split
      · rw [← ih]; omega
      · rw [← ih]; omega
theorem find_some {M : List PE} {id : Int} (h : 0 ≤ findI M id) : ∃ i : Nat, findI M id = i ∧ i < M.length ∧ M[i]?.map (·.1) = some id := by
  induction M with
  | nil => simp [findI] at h
  | cons e M ih =>
    unfold findI at h ⊢
    split
    · rename_i e1
      exact ⟨0, rfl, by simp, by simp [e1]⟩
    · rename_i e1
      rw [if_neg e1] at h
      split
      · rename_i e2; rw [if_pos e2] at h; omega
      · rename_i e2
        obtain ⟨i, h1, h2, h3⟩ := ih (by omega)
        exact ⟨i + 1, by rw [h1]; rfl, by simpa using h2, by simpa using h3⟩
set_option maxHeartbeats 2000000 in
theorem Ri.find (B : Base) (p : Option Addr) (c : Nat) (M : List PE) (id : Int) (hn : M.length < 2 ^ 40) : Fn Try.prog B 86 #[.slice p M.length c, .int .i64 id] [rI p M.length c M] (fun u l => u = .int .i64 (findI M id) ∧ l = [rI p M.length c M]) := by
 refine Fn.enter2 20 Try.func86 rfl rfl (Nat.le_of_ble_eq_true rfl) (fun F => ?_)
 try simp only [List.cons_append, List.nil_append]
 refine T.seq ?_
 refine T.region ?_
 refine LW.q rfl (Qt.assign rfl) ?_
 refine LW.done ?_
 refine T.seq ?_
 refine T.seq ?_
 refine T.region ?_
 refine LW.q rfl (Qt.assign rfl) ?_
 refine LW.done ?_
 refine T.block ?_
 refine T.loop (fun mz fz lz => ∃ (f0 : Fr) (i : Nat), (i ≤ M.length ∧ ∀ (j : Nat) (hj : j < M.length), j < i → M[j].1 ≠ id) ∧ mz = M.length - i ∧ fz = (upd (upd (upd f0 0 (.slice p M.length c)) 1 (.int .i64 id)) 5 (.int .i64 i)) ∧ lz = rI p M.length c M :: F) ?_ ?_
 · refine ⟨_, _, ⟨_, 0, ⟨Nat.zero_le _, fun j _ h => by omega⟩, rfl, (updS rfl (updS rfl (updS rfl rfl))), rfl⟩, Sub.any⟩
 ·
  rintro mz fz lz ⟨f0, i, ⟨hi, hnot⟩, hmz, rfl, rfl⟩
  subst mz
  try simp only [List.cons_append, List.nil_append]
  refine T.seq ?_
  refine T.seq ?_
  refine T.region ?_
  refine LW.q rfl (Qt.move rfl) ?_
  refine LW.q rfl (Qt.move rfl) ?_
  refine LW.q rfl (Qt.len (e := 150) (sz := 3) (by kernel_rfl) rfl) ?_
  refine LW.q rfl (Qt.lss rfl rfl) ?_
  refine LW.done ?_
  refine T.condP rfl (fun hlt => ?_) (fun hlt => ?_)
  ·
   have hix : i < M.length := by omega
   refine T.own fun w1 ho1 => ?_
   obtain ⟨g6, rfl⟩ := (ho1.slice_at (p := p) (m := M.length) (c := c) (k := M.length)).2.1 (by omega)
   clear ho1
   refine T.skip ?_
   refine T.seq ?_
   refine T.block ?_
   refine T.seq ?_
   refine T.region ?_
   refine LW.q rfl (Qt.move rfl) ?_
   refine LW.q rfl (Qt.move rfl) ?_
   refine LW.q rfl (Qt.index i (e := 150) (sz := 3) (by kernel_rfl) rfl rfl rfl hix) ?_
   refine LW.q rfl (Qt.fieldAddr0 (by kernel_rfl) rfl) ?_
   refine LW.q rfl (Qt.load (v := iV M[i].1) (by kernel_rfl) rfl (flat_cell0 itC 3 M (by intros; rfl) i hix rfl)) ?_
   refine LW.q rfl (Qt.move rfl) ?_
   refine LW.q rfl (Qt.eql rfl rfl) ?_
   refine LW.done ?_
   refine T.condP rfl (fun hx => ?_) (fun hx => ?_)
   ·
    refine T.seq ?_
    refine T.region ?_
    refine LW.q rfl (Qt.move rfl) ?_
    refine LW.q rfl (Qt.assign rfl) ?_
    refine LW.done ?_
    refine T.ret ?_
    exact ⟨.inl rfl, _, _, res [_] rfl ⟨rvT rfl, trivial⟩, ⟨by rw [find_at hix hx hnot]; rfl, rfl⟩, Sub.any⟩
   ·
    refine T.skip ?_
    refine T.region ?_
    refine LW.q rfl (Qt.move rfl) ?_
    refine LW.q rfl (Qt.add rfl rfl (wr64 (by omega) (by omega))) ?_
    refine LW.q rfl (Qt.assign rfl) ?_
    refine LW.done ?_
    refine ⟨_, ?_, _, ⟨_, i + 1, ⟨by omega, fun j hj hlt => by rcases (by omega : j < i ∨ j = i) with h | rfl; exact hnot j hj h; exact hx⟩, rfl, (updS rfl (updS rfl (updS rfl rfl))), rfl⟩, Sub.any⟩
    first | omega | (simp; omega)
  ·
   refine T.exit ?_
   refine T.seq ?_
   refine T.region ?_
   refine LW.q rfl (Qt.assign rfl) ?_
   refine LW.done ?_
   refine T.ret ?_
   exact ⟨.inl rfl, _, _, res [_] rfl ⟨rvT rfl, trivial⟩, ⟨by rw [find_none fun j hj => hnot j hj (by omega)]; rfl, rfl⟩, Sub.any⟩
set_option maxHeartbeats 2000000 in
theorem Ri.radd (B : Base) (p : Option Addr) (c : Nat) (M : List PE) (id f t : Int) (hn : M.length < 2 ^ 36) : Fn Try.prog B 65 #[.slice p M.length c, .int .i64 id, pdV f t] [rI p M.length c M] (fun u l => ∃ p' c', u = .tuple #[.slice p' (addM M id f t).length c', .int .i64 (addCode M id f t)] ∧ l = [rI p' (addM M id f t).length c' (addM M id f t)]) := by
 refine Fn.enter3 27 Try.func65 rfl rfl (Nat.le_of_ble_eq_true rfl) (fun F => ?_)
 try simp only [List.cons_append, List.nil_append]
 refine T.seq ?_
 refine T.region ?_
 refine LW.e rfl (Ef.box [_, _] rfl rfl ?_)
 intro g5
 refine LW.q rfl (Qt.assign rfl) ?_
 refine LW.q rfl (Qt.assign rfl) ?_
 refine LW.done ?_
 refine T.seq ?_
 refine T.seq ?_
 refine T.region ?_
 first | refine LW.q rfl (Qt.loadAgg [_, _] (by kernel_rfl) rfl ⟨rfl, rfl, trivial⟩) ?_ | refine LW.q rfl (Qt.loadAgg [_, _] (by kernel_rfl) rfl (by exact rdl_flat _ _ _ (by intros; rfl) _ (by omega))) ?_
 refine LW.e rfl (Ef.call (Ri.right B f t) Try.func57 rfl rfl rfl ?_)
 rintro _ _ ⟨rfl, rfl⟩
 try simp only [List.cons_append, List.nil_append]
 by_cases h : okP f t
 ·
  first | refine LW.q rfl (Qt.notP rfl) ?_ | refine LW.q rfl (Qt.notB rfl) ?_
  refine LW.done ?_
  first | refine T.condF rfl ?_ | refine T.condPF rfl ((fun k => k h)) ?_ | refine T.condBF rfl ((fun k => k h)) ?_
  refine T.skip ?_
  refine T.seq ?_
  refine T.seq ?_
  refine T.region ?_
  refine LW.q rfl (Qt.move rfl) ?_
  refine LW.q rfl (Qt.move rfl) ?_
  refine LW.e rfl (Ef.call (Ri.find B p c M id (by omega)) Try.func86 rfl rfl rfl ?_)
  rintro _ _ ⟨rfl, rfl⟩
  try simp only [List.cons_append, List.nil_append]
  refine LW.q rfl (Qt.geq rfl rfl) ?_
  refine LW.done ?_
  have hfl := find_look (M := M) (id := id)
  by_cases hs : 0 ≤ findI M id
  ·
   have e1 : addM M id f t = M := by unfold addM; rw [if_neg (fun k => by have := hfl.1 hs; rw [k.2] at this; cases this)]
   have e2 : addCode M id f t = 90 := by unfold addCode; rw [if_pos h, if_pos (hfl.1 hs)]
   first | refine T.condT rfl ?_ | refine T.condPT rfl (by omega) ?_ | refine T.condBT rfl (by omega) ?_
   refine T.seq ?_
   refine T.region ?_
   refine LW.q rfl (Qt.move rfl) ?_
   refine LW.q rfl (Qt.assign rfl) ?_
   refine LW.q rfl (Qt.assign rfl) ?_
   refine LW.done ?_
   refine T.ret ?_
   exact ⟨.inl rfl, _, _, res [_, _] rfl ⟨rvT rfl, rvT rfl, trivial⟩, ⟨p, c, by rw [e1, e2]; rfl, by rw [e1]⟩, Sub.any⟩
  ·
   have hln : lookM M id = none := by cases hl : lookM M id; rfl; exact absurd (hfl.2 (by rw [hl]; rfl)) hs
   have e2 : addCode M id f t = 0 := by unfold addCode; rw [if_pos h, hln]; rfl
   obtain ⟨a, b, rfl, rfl, hab, hb⟩ := okP_nat h
   have e1 : addM M id a b = M ++ [(id, (a, b))] := by unfold addM; rw [if_pos ⟨h, hln⟩]; rfl
   first | refine T.condF rfl ?_ | refine T.condPF rfl (by omega) ?_ | refine T.condBF rfl (by omega) ?_
   refine T.skip ?_
   refine T.seq ?_
   refine T.region ?_
   refine LW.e rfl (Ef.empty Ri.elemT ?_)
   rintro g9
   try simp only [List.cons_append, List.nil_append]
   refine LW.q rfl (Qt.move rfl) ?_
   refine LW.e rfl (Ef.append Ri.elemT rfl rfl (SrcOf.row (by kernel_rfl) one_it) (by unfold maxLen; omega) (by omega) ?_)
   rintro p3 c3 hp3
   try simp only [List.cons_append, List.nil_append]
   try simp only [Nat.zero_add, List.nil_append]
   refine LW.q rfl (Qt.assign rfl) ?_
   refine LW.done ?_
   refine T.seq ?_
   refine T.region ?_
   refine LW.q rfl (Qt.move rfl) ?_
   refine LW.q rfl (Qt.move rfl) ?_
   first | refine LW.q rfl (Qt.loadAgg [_, _] (by kernel_rfl) rfl ⟨rfl, rfl, trivial⟩) ?_ | refine LW.q rfl (Qt.loadAgg [_, _] (by kernel_rfl) rfl (by exact rdl_flat _ _ _ (by intros; rfl) _ (by omega))) ?_
   refine LW.q rfl (Qt.build [(0, 1), (1, 2)] [.int .i64 0, .int .i64 0, .int .i64 0] [_, _, _] [(0, _), (1, _)] (by kernel_rfl) (by unfold zeroB; kernel_rfl) rfl rfl) ?_
   refine LW.e rfl (Ef.one [_, _, _] (e := 150) (sz := 3) (by kernel_rfl) ⟨.agg #[.int .i64 0, .int .i64 0, .int .i64 0], by kernel_rfl, rfl⟩ rfl rfl rfl (by omega) (by omega) ?_)
   intro g25
   refine LW.e rfl (Ef.append Ri.elemT rfl rfl (SrcOf.blk (by kernel_rfl) rfl (by simp [Value.oneCell'])) (by unfold maxLen; omega) (by omega) ?_)
   rintro p4 c4 hp4
   try simp only [List.cons_append, List.nil_append]
   rw [show M.flatMap itC ++ [Value.int .i64 id, Value.int .i64 (a : Int), Value.int .i64 (b : Int)] = (M ++ [(id, (a, b))]).flatMap itC by simp, show M.length + 1 = (M ++ [(id, (a, b))]).length by simp]
   refine LW.q rfl (Qt.assign rfl) ?_
   refine LW.q rfl (Qt.assign rfl) ?_
   refine LW.done ?_
   refine T.ret ?_
   exact ⟨.inl rfl, _, _, res [_, _] rfl ⟨rvT rfl, rvT rfl, trivial⟩, ⟨p4, c4, by rw [e1, e2]; rfl, by rw [e1]⟩, Sub.any⟩
 ·
  have e1 : addM M id f t = M := by unfold addM; rw [if_neg (fun k => h k.1)]
  have e2 : addCode M id f t = 40 := by unfold addCode; rw [if_neg h]
  first | refine LW.q rfl (Qt.notP rfl) ?_ | refine LW.q rfl (Qt.notB rfl) ?_
  refine LW.done ?_
  first | refine T.condT rfl ?_ | refine T.condPT rfl ((h)) ?_ | refine T.condBT rfl ((h)) ?_
  refine T.seq ?_
  refine T.region ?_
  refine LW.q rfl (Qt.move rfl) ?_
  refine LW.q rfl (Qt.assign rfl) ?_
  refine LW.q rfl (Qt.assign rfl) ?_
  refine LW.done ?_
  refine T.ret ?_
  exact ⟨.inl rfl, _, _, res [_, _] rfl ⟨rvT rfl, rvT rfl, trivial⟩, ⟨p, c, by rw [e1, e2]; rfl, by rw [e1]⟩, Sub.any⟩
set_option maxHeartbeats 2000000 in
theorem Ri.rcut (B : Base) (p : Option Addr) (c : Nat) (M : List PE) (id : Int) (hnd : (M.map (·.1)).Nodup) (hn : M.length < 2 ^ 36) : Fn Try.prog B 66 #[.slice p M.length c, .int .i64 id] [rI p M.length c M] (fun u l => ∃ p' c', u = .tuple #[.slice p' (cutM M id).length c', .int .i64 (cutCode M id)] ∧ l = [rI p' (cutM M id).length c' (cutM M id)]) := by
 refine Fn.enter2 25 Try.func66 rfl rfl (Nat.le_of_ble_eq_true rfl) (fun F => ?_)
 try simp only [List.cons_append, List.nil_append]
 refine T.seq ?_
 refine T.region ?_
 refine LW.q rfl (Qt.assign rfl) ?_
 refine LW.q rfl (Qt.assign rfl) ?_
 refine LW.done ?_
 refine T.seq ?_
 refine T.region ?_
 refine LW.q rfl (Qt.move rfl) ?_
 refine LW.q rfl (Qt.move rfl) ?_
 refine LW.e rfl (Ef.call (Ri.find B p c M id (by omega)) Try.func86 rfl rfl rfl ?_)
 rintro _ _ ⟨rfl, rfl⟩
 try simp only [List.cons_append, List.nil_append]
 refine LW.q rfl (Qt.assign rfl) ?_
 refine LW.done ?_
 refine T.seq ?_
 refine T.seq ?_
 refine T.region ?_
 refine LW.q rfl (Qt.move rfl) ?_
 refine LW.q rfl (Qt.lss rfl rfl) ?_
 refine LW.done ?_
 have hfl := find_look (M := M) (id := id)
 by_cases hs : 0 ≤ findI M id
 ·
  obtain ⟨i, hi, hil, hia⟩ := find_some hs
  have e1 : cutM M id = M.take i ++ M.drop (i + 1) := by rw [cutM_some hnd hia, List.eraseIdx_eq_take_drop_succ]
  have e2 : cutCode M id = 0 := by unfold cutCode; rw [if_pos (hfl.1 hs)]
  refine T.own fun w1 ho1 => ?_
  obtain ⟨g6, rfl⟩ := (ho1.slice_at (p := p) (m := M.length) (c := c) (k := M.length)).2.1 (by omega)
  have hcap := ho1.cap_at (p := some ⟨g6, 0, none⟩) (m := M.length) (c := c)
  clear ho1
  rw [hi]
  first | refine T.condF rfl ?_ | refine T.condPF rfl (by omega) ?_ | refine T.condBF rfl (by omega) ?_
  refine T.skip ?_
  refine T.seq ?_
  refine T.region ?_
  refine LW.e rfl (Ef.empty Ri.elemT ?_)
  rintro g9
  try simp only [List.cons_append, List.nil_append]
  refine LW.q rfl (Qt.move rfl) ?_
  refine LW.q rfl (Qt.move rfl) ?_
  refine LW.q rfl (Qt.slice_nsn i (e := 150) (sz := 3) (by kernel_rfl) rfl rfl rfl (by omega)) ?_
  refine LW.e rfl (Ef.append Ri.elemT rfl rfl (SrcOf.headR (m := M.length) (by kernel_rfl) (it_len M) (by omega) one_it) (by unfold maxLen; omega) (by omega) ?_)
  rintro p1 c1 hp1
  try simp only [List.cons_append, List.nil_append]
  try simp only [Nat.zero_add, List.nil_append]
  rw [it_take]
  refine LW.q rfl (Qt.assign rfl) ?_
  refine LW.done ?_
  refine T.seq ?_
  refine T.region ?_
  refine LW.q rfl (Qt.move rfl) ?_
  refine LW.q rfl (Qt.move rfl) ?_
  refine LW.q rfl (Qt.move rfl) ?_
  refine LW.q rfl (Qt.add rfl rfl (wr64 (by omega) (by omega))) ?_
  refine LW.q rfl (Qt.slice_snn (i + 1) (e := 150) (sz := 3) (by kernel_rfl) rfl rfl (by omega) (by omega)) ?_
  refine LW.e rfl (Ef.append Ri.elemT rfl rfl (SrcOf.tailR (m := M.length) (by kernel_rfl) (it_len M) (by omega) hcap one_it) (by unfold maxLen; omega) (by omega) ?_)
  rintro p2 c2 hp2
  try simp only [List.cons_append, List.nil_append]
  rw [it_drop, ← List.flatMap_append]
  have hl2 : i + (M.length - (i + 1)) = (M.take i ++ M.drop (i + 1)).length := by simp; omega
  rw [hl2]
  refine LW.q rfl (Qt.assign rfl) ?_
  refine LW.q rfl (Qt.assign rfl) ?_
  refine LW.done ?_
  refine T.ret ?_
  exact ⟨.inl rfl, _, _, res [_, _] rfl ⟨rvT rfl, rvT rfl, trivial⟩, ⟨p2, c2, by rw [e1, e2]; rfl, by rw [e1]⟩, Sub.any⟩
 ·
  have hln : lookM M id = none := by cases hl : lookM M id; rfl; exact absurd (hfl.2 (by rw [hl]; rfl)) hs
  have e1 : cutM M id = M := cutM_none hln
  have e2 : cutCode M id = 4 := by unfold cutCode; rw [hln]; rfl
  first | refine T.condT rfl ?_ | refine T.condPT rfl (by omega) ?_ | refine T.condBT rfl (by omega) ?_
  refine T.seq ?_
  refine T.region ?_
  refine LW.q rfl (Qt.move rfl) ?_
  refine LW.q rfl (Qt.assign rfl) ?_
  refine LW.q rfl (Qt.assign rfl) ?_
  refine LW.done ?_
  refine T.ret ?_
  exact ⟨.inl rfl, _, _, res [_, _] rfl ⟨rvT rfl, rvT rfl, trivial⟩, ⟨p, c, by rw [e1, e2]; rfl, by rw [e1]⟩, Sub.any⟩
theorem ov_take {M : List PE} {a b i : Nat} (h : i < M.length) : allZ (((M.take (i + 1)).filter fun e => decide (e.2.1 < b ∧ a < e.2.2)).map (·.1)) = if M[i].2.1 < b ∧ a < M[i].2.2 then withZ (allZ (((M.take i).filter fun e => decide (e.2.1 < b ∧ a < e.2.2)).map (·.1))) M[i].1 else allZ (((M.take i).filter fun e => decide (e.2.1 < b ∧ a < e.2.2)).map (·.1)) := by
  rw [List.take_succ_eq_append_getElem h, List.filter_append]
  split
  · rename_i hq; rw [show List.filter (fun e : PE => decide (e.2.1 < b ∧ a < e.2.2)) [M[i]] = [M[i]] by simp [hq], List.map_append]; exact all_snoc _ _
  · rename_i hq; rw [show List.filter (fun e : PE => decide (e.2.1 < b ∧ a < e.2.2)) [M[i]] = [] by simp [hq], List.append_nil]
set_option maxHeartbeats 4000000 in
set_option maxRecDepth 100000 in
theorem Ri.rover (B : Base) (p : Option Addr) (c : Nat) (M : List PE) (f t : Int) (hn : M.length < 2 ^ 36) : Fn Try.prog B 67 #[.slice p M.length c, pdV f t] [rI p M.length c M] (fun u l => ∃ p' c', u = .tuple #[.slice p' (ovI M f t).length c', .int .i64 (codeP f t)] ∧ l = [rZ p' (ovI M f t).length c' (ovI M f t), rI p M.length c M]) := by
 refine Fn.enter2 45 Try.func67 rfl rfl (Nat.le_of_ble_eq_true rfl) (fun F => ?_)
 try simp only [List.cons_append, List.nil_append]
 refine T.seq ?_
 refine T.region ?_
 refine LW.e rfl (Ef.box [_, _] rfl rfl ?_)
 intro g3
 refine LW.q rfl (Qt.assign rfl) ?_
 refine LW.q rfl (Qt.assign rfl) ?_
 refine LW.done ?_
 refine T.seq ?_
 refine T.seq ?_
 refine T.region ?_
 first | refine LW.q rfl (Qt.loadAgg [_, _] (by kernel_rfl) rfl ⟨rfl, rfl, trivial⟩) ?_ | refine LW.q rfl (Qt.loadAgg [_, _] (by kernel_rfl) rfl (by exact rdl_flat _ _ _ (by intros; rfl) _ (by omega))) ?_
 refine LW.e rfl (Ef.call (Ri.right B f t) Try.func57 rfl rfl rfl ?_)
 rintro _ _ ⟨rfl, rfl⟩
 try simp only [List.cons_append, List.nil_append]
 by_cases h : okP f t
 ·
  first | refine LW.q rfl (Qt.notP rfl) ?_ | refine LW.q rfl (Qt.notB rfl) ?_
  refine LW.done ?_
  first | refine T.condF rfl ?_ | refine T.condPF rfl ((fun k => k h)) ?_ | refine T.condBF rfl ((fun k => k h)) ?_
  obtain ⟨a, b, rfl, rfl, hab, hb⟩ := okP_nat h
  have e1 : ovI M a b = ovZ M a b := by unfold ovI; rw [if_pos h, Int.toNat_natCast, Int.toNat_natCast]
  have e2 : codeP (a : Int) b = 0 := by unfold codeP; rw [if_pos h]
  refine T.conv (l' := rZ none ([] : List Int).length 0 [] :: _) (fun w ho => ho.row_nil 2 1) ?_
  refine T.skip ?_
  refine T.seq ?_
  refine T.region ?_
  refine LW.q rfl (Qt.assign rfl) ?_
  refine LW.done ?_
  refine T.seq ?_
  refine T.seq ?_
  refine T.region ?_
  refine LW.q rfl (Qt.assign rfl) ?_
  refine LW.done ?_
  refine T.block ?_
  refine T.loop (fun mz fz lz => ∃ (f0 : Fr) (i : Nat) (A : List Int) (p1 : Option Addr) (c1 : Nat), (i ≤ M.length ∧ A.length ≤ i ∧ A = allZ (((M.take i).filter fun e => decide (e.2.1 < b ∧ a < e.2.2)).map (·.1))) ∧ mz = M.length - i ∧ fz = (upd (upd (upd (upd f0 0 (.slice p M.length c)) 3 (pV g3)) 6 (.slice p1 A.length c1)) 7 (.int .i64 i)) ∧ lz = rZ p1 A.length c1 A :: rI p M.length c M :: blk g3 [.int .i64 a, .int .i64 b] 57 :: F) ?_ ?_
  · refine ⟨_, _, ⟨_, 0, [], none, 0, ⟨Nat.zero_le _, Nat.le_refl _, rfl⟩, rfl, (updS rfl (updS rfl (updS rfl (updS rfl rfl)))), rfl⟩, Sub.any⟩
  ·
   rintro mz fz lz ⟨f0, i, A, p1, c1, ⟨hi, hAl, hA⟩, hmz, rfl, rfl⟩
   subst mz
   try simp only [List.cons_append, List.nil_append]
   refine T.seq ?_
   refine T.seq ?_
   refine T.region ?_
   refine LW.q rfl (Qt.move rfl) ?_
   refine LW.q rfl (Qt.move rfl) ?_
   refine LW.q rfl (Qt.len (e := 150) (sz := 3) (by kernel_rfl) rfl) ?_
   refine LW.q rfl (Qt.lss rfl rfl) ?_
   refine LW.done ?_
   refine T.condP rfl (fun hlt => ?_) (fun hlt => ?_)
   ·
    have hix : i < M.length := by omega
    have hot := ov_take (a := a) (b := b) hix
    rw [← hA] at hot
    refine T.own fun w1 ho1 => ?_
    obtain ⟨g6, rfl⟩ := (ho1.slice_at (p := p) (m := M.length) (c := c) (k := M.length)).2.1 (by omega)
    have hp1 := (ho1.slice_at (p := p1) (m := A.length) (c := c1) (k := A.length)).2.1
    clear ho1
    refine T.skip ?_
    refine T.seq ?_
    refine T.block ?_
    refine T.seq ?_
    refine T.drawAll 20 (by kernel_rfl) (Nat.le_of_ble_eq_true rfl) (by kernel_rfl) ?_
    refine RW.q 0 rfl rfl (by kernel_rfl) (Sub.refl _) (Qt.move rfl) ?_
    refine RW.q 1 rfl rfl (by kernel_rfl) (Sub.refl _) (Qt.move rfl) ?_
    refine RW.q 2 rfl rfl (by kernel_rfl) (Sub.refl _) (Qt.index i (e := 150) (sz := 3) (by kernel_rfl) rfl rfl rfl hix) ?_
    refine RW.q 3 rfl rfl (by kernel_rfl) (Sub.refl _) (Qt.fieldAddr (off := 1) (by kernel_rfl) rfl) ?_
    refine RW.q 4 rfl rfl (by kernel_rfl) (Sub.refl _) (Qt.fieldAddr0 (by kernel_rfl) rfl) ?_
    refine RW.q 5 rfl rfl (by kernel_rfl) (Sub.refl _) (Qt.load (v := .int .i64 (M[i].2.1 : Nat)) (by kernel_rfl) rfl (flat_cell itC 3 M (by intros; rfl) i 1 hix rfl)) ?_
    refine RW.q 6 rfl rfl (by kernel_rfl) (Sub.refl _) (Qt.fieldAddr (off := 1) (by kernel_rfl) rfl) ?_
    first | refine RW.q 7 rfl rfl (by kernel_rfl) (Sub.refl _) (Qt.load (by kernel_rfl) rfl rfl) ?_ | refine RW.q 7 rfl rfl (by kernel_rfl) (Sub.refl _) (Qt.load (by kernel_rfl) rfl (map_at _ _ _ (by omega))) ?_ | refine RW.q 7 rfl rfl (by kernel_rfl) (Sub.refl _) (Qt.load (by kernel_rfl) rfl (flat_cell0 _ _ _ (by intros; rfl) _ (by omega) (by rfl))) ?_ | refine RW.q 7 rfl rfl (by kernel_rfl) (Sub.refl _) (Qt.load (by kernel_rfl) rfl (flat_cell _ _ _ (by intros; rfl) _ _ (by omega) (by rfl))) ?_ | refine RW.q 7 rfl rfl (by kernel_rfl) (Sub.refl _) (Qt.load (by kernel_rfl) rfl (bytes_at _ _ (by omega))) ?_
    refine RW.q 8 rfl rfl (by kernel_rfl) (Sub.refl _) (Qt.lss rfl rfl) ?_
    refine RW.q 9 rfl rfl (by kernel_rfl) (Sub.refl _) (Qt.move rfl) ?_
    by_cases hq : M[i].2.1 < b ∧ a < M[i].2.2
    ·
     rw [if_pos hq] at hot
     first | refine RW.gT (t := 26) rfl rfl ?_ | refine RW.gT (t := 26) rfl (decide_eq_true ((by omega))) ?_ | refine RW.gT (t := 26) rfl ((by omega)) ?_
     refine RW.q 10 rfl rfl (by kernel_rfl) (Sub.refl _) (Qt.fieldAddr0 (by kernel_rfl) rfl) ?_
     first | refine RW.q 11 rfl rfl (by kernel_rfl) (Sub.refl _) (Qt.load (by kernel_rfl) rfl rfl) ?_ | refine RW.q 11 rfl rfl (by kernel_rfl) (Sub.refl _) (Qt.load (by kernel_rfl) rfl (map_at _ _ _ (by omega))) ?_ | refine RW.q 11 rfl rfl (by kernel_rfl) (Sub.refl _) (Qt.load (by kernel_rfl) rfl (flat_cell0 _ _ _ (by intros; rfl) _ (by omega) (by rfl))) ?_ | refine RW.q 11 rfl rfl (by kernel_rfl) (Sub.refl _) (Qt.load (by kernel_rfl) rfl (flat_cell _ _ _ (by intros; rfl) _ _ (by omega) (by rfl))) ?_ | refine RW.q 11 rfl rfl (by kernel_rfl) (Sub.refl _) (Qt.load (by kernel_rfl) rfl (bytes_at _ _ (by omega))) ?_
     refine RW.q 12 rfl rfl (by kernel_rfl) (Sub.refl _) (Qt.move rfl) ?_
     refine RW.q 13 rfl rfl (by kernel_rfl) (Sub.refl _) (Qt.move rfl) ?_
     refine RW.q 14 rfl rfl (by kernel_rfl) (Sub.refl _) (Qt.index i (e := 150) (sz := 3) (by kernel_rfl) rfl rfl rfl hix) ?_
     refine RW.q 15 rfl rfl (by kernel_rfl) (Sub.refl _) (Qt.fieldAddr (off := 1) (by kernel_rfl) rfl) ?_
     refine RW.q 16 rfl rfl (by kernel_rfl) (Sub.refl _) (Qt.fieldAddr (off := 1) (by kernel_rfl) rfl) ?_
     refine RW.q 17 rfl rfl (by kernel_rfl) (Sub.refl _) (Qt.load (v := .int .i64 (M[i].2.2 : Nat)) (by kernel_rfl) rfl (flat_cell itC 3 M (by intros; rfl) i 2 hix rfl)) ?_
     refine RW.q 18 rfl rfl (by kernel_rfl) (Sub.refl _) (Qt.lss rfl rfl) ?_
     refine RW.q 19 rfl rfl (by kernel_rfl) (Sub.refl _) (Qt.pick rfl rfl) ?_
     refine RW.done (by rfl) ?_
     simp only [List.drop_succ_cons, List.drop_zero, List.drop_nil]
     refine LW.done ?_
     first | refine T.condT rfl ?_ | refine T.condPT rfl ((by omega)) ?_ | refine T.condBT rfl ((by omega)) ?_
     refine T.region ?_
     refine LW.q rfl (Qt.move rfl) ?_
     refine LW.q rfl (Qt.move rfl) ?_
     refine LW.q rfl (Qt.move rfl) ?_
     refine LW.q rfl (Qt.index i (e := 150) (sz := 3) (by kernel_rfl) rfl rfl rfl hix) ?_
     refine LW.q rfl (Qt.fieldAddr0 (by kernel_rfl) rfl) ?_
     refine LW.q rfl (Qt.load (v := iV M[i].1) (by kernel_rfl) rfl (flat_cell0 itC 3 M (by intros; rfl) i hix rfl)) ?_
     refine LW.e rfl (Ef.call (Ri.withF B [rZ p1 A.length c1 A] (.slice p1 A.length c1) A M[i].1 (RdV.rz rfl hp1 (fun w ho => ho)) (by omega)) Try.func62 rfl rfl rfl ?_)
     rintro _ _ ⟨p7, c7, rfl, rfl⟩
     try simp only [List.cons_append, List.nil_append]
     refine LW.q rfl (Qt.assign rfl) ?_
     refine LW.done ?_
     refine T.region ?_
     refine LW.q rfl (Qt.move rfl) ?_
     refine LW.q rfl (Qt.add rfl rfl (wr64 (by omega) (by omega))) ?_
     refine LW.q rfl (Qt.assign rfl) ?_
     refine LW.done ?_
     refine ⟨_, ?_, _, ⟨_, i + 1, withZ A M[i].1, p7, c7, ⟨by omega, by rw [len_with]; omega, hot.symm⟩, rfl, (updS rfl (updS rfl (updS rfl (updS rfl rfl)))), rfl⟩, Sub.any⟩
     first | omega | (simp; omega)
    ·
     rw [if_neg hq] at hot
     by_cases hq2 : M[i].2.1 < b
     ·
      first | refine RW.gT (t := 26) rfl rfl ?_ | refine RW.gT (t := 26) rfl (decide_eq_true ((by omega))) ?_ | refine RW.gT (t := 26) rfl ((by omega)) ?_
      refine RW.q 10 rfl rfl (by kernel_rfl) (Sub.refl _) (Qt.fieldAddr0 (by kernel_rfl) rfl) ?_
      first | refine RW.q 11 rfl rfl (by kernel_rfl) (Sub.refl _) (Qt.load (by kernel_rfl) rfl rfl) ?_ | refine RW.q 11 rfl rfl (by kernel_rfl) (Sub.refl _) (Qt.load (by kernel_rfl) rfl (map_at _ _ _ (by omega))) ?_ | refine RW.q 11 rfl rfl (by kernel_rfl) (Sub.refl _) (Qt.load (by kernel_rfl) rfl (flat_cell0 _ _ _ (by intros; rfl) _ (by omega) (by rfl))) ?_ | refine RW.q 11 rfl rfl (by kernel_rfl) (Sub.refl _) (Qt.load (by kernel_rfl) rfl (flat_cell _ _ _ (by intros; rfl) _ _ (by omega) (by rfl))) ?_ | refine RW.q 11 rfl rfl (by kernel_rfl) (Sub.refl _) (Qt.load (by kernel_rfl) rfl (bytes_at _ _ (by omega))) ?_
      refine RW.q 12 rfl rfl (by kernel_rfl) (Sub.refl _) (Qt.move rfl) ?_
      refine RW.q 13 rfl rfl (by kernel_rfl) (Sub.refl _) (Qt.move rfl) ?_
      refine RW.q 14 rfl rfl (by kernel_rfl) (Sub.refl _) (Qt.index i (e := 150) (sz := 3) (by kernel_rfl) rfl rfl rfl hix) ?_
      refine RW.q 15 rfl rfl (by kernel_rfl) (Sub.refl _) (Qt.fieldAddr (off := 1) (by kernel_rfl) rfl) ?_
      refine RW.q 16 rfl rfl (by kernel_rfl) (Sub.refl _) (Qt.fieldAddr (off := 1) (by kernel_rfl) rfl) ?_
      refine RW.q 17 rfl rfl (by kernel_rfl) (Sub.refl _) (Qt.load (v := .int .i64 (M[i].2.2 : Nat)) (by kernel_rfl) rfl (flat_cell itC 3 M (by intros; rfl) i 2 hix rfl)) ?_
      refine RW.q 18 rfl rfl (by kernel_rfl) (Sub.refl _) (Qt.lss rfl rfl) ?_
      refine RW.q 19 rfl rfl (by kernel_rfl) (Sub.refl _) (Qt.pick rfl rfl) ?_
      refine RW.done (by rfl) ?_
      simp only [List.drop_succ_cons, List.drop_zero, List.drop_nil]
      refine LW.done ?_
      first | refine T.condF rfl ?_ | refine T.condPF rfl ((by omega)) ?_ | refine T.condBF rfl ((by omega)) ?_
      refine T.skip ?_
      refine T.region ?_
      refine LW.q rfl (Qt.move rfl) ?_
      refine LW.q rfl (Qt.add rfl rfl (wr64 (by omega) (by omega))) ?_
      refine LW.q rfl (Qt.assign rfl) ?_
      refine LW.done ?_
      refine ⟨_, ?_, _, ⟨_, i + 1, A, p1, c1, ⟨by omega, by omega, hot.symm⟩, rfl, (updS rfl (updS rfl (updS rfl (updS rfl rfl)))), rfl⟩, Sub.any⟩
      first | omega | (simp; omega)
     ·
      first | refine RW.gF (t := 26) rfl rfl ?_ | refine RW.gF (t := 26) rfl (decide_eq_false ((by omega))) ?_ | refine RW.gF (t := 26) rfl ((by omega)) ?_
      refine RW.s 10 rfl rfl (by kernel_rfl) (Sub.refl _) ?_
      refine RW.s 11 rfl rfl (by kernel_rfl) (Sub.refl _) ?_
      refine RW.s 12 rfl rfl (by kernel_rfl) (Sub.refl _) ?_
      refine RW.s 13 rfl rfl (by kernel_rfl) (Sub.refl _) ?_
      refine RW.s 14 rfl rfl (by kernel_rfl) (Sub.refl _) ?_
      refine RW.s 15 rfl rfl (by kernel_rfl) (Sub.refl _) ?_
      refine RW.s 16 rfl rfl (by kernel_rfl) (Sub.refl _) ?_
      refine RW.s 17 rfl rfl (by kernel_rfl) (Sub.refl _) ?_
      refine RW.s 18 rfl rfl (by kernel_rfl) (Sub.refl _) ?_
      refine RW.q 19 rfl rfl (by kernel_rfl) (Sub.refl _) (Qt.pick rfl rfl) ?_
      refine RW.done (by rfl) ?_
      simp only [List.drop_succ_cons, List.drop_zero, List.drop_nil]
      refine LW.done ?_
      first | refine T.condF rfl ?_ | refine T.condPF rfl (by omega) ?_ | refine T.condBF rfl (by omega) ?_
      refine T.skip ?_
      refine T.region ?_
      refine LW.q rfl (Qt.move rfl) ?_
      refine LW.q rfl (Qt.add rfl rfl (wr64 (by omega) (by omega))) ?_
      refine LW.q rfl (Qt.assign rfl) ?_
      refine LW.done ?_
      refine ⟨_, ?_, _, ⟨_, i + 1, A, p1, c1, ⟨by omega, by omega, hot.symm⟩, rfl, (updS rfl (updS rfl (updS rfl (updS rfl rfl)))), rfl⟩, Sub.any⟩
      first | omega | (simp; omega)
   ·
    rw [List.take_of_length_le (by omega)] at hA
    have hA2 : A = ovZ M a b := hA
    subst hA2
    refine T.exit ?_
    refine T.seq ?_
    refine T.region ?_
    refine LW.q rfl (Qt.move rfl) ?_
    refine LW.q rfl (Qt.assign rfl) ?_
    refine LW.q rfl (Qt.assign rfl) ?_
    refine LW.done ?_
    refine T.ret ?_
    exact ⟨.inl rfl, _, _, res [_, _] rfl ⟨rvT rfl, rvT rfl, trivial⟩, ⟨p1, c1, by rw [e1, e2]; rfl, by rw [e1]⟩, Sub.any⟩
 ·
  have e1 : ovI M f t = [] := by unfold ovI; rw [if_neg h]
  have e2 : codeP f t = 40 := by unfold codeP; rw [if_neg h]
  first | refine LW.q rfl (Qt.notP rfl) ?_ | refine LW.q rfl (Qt.notB rfl) ?_
  refine LW.done ?_
  first | refine T.condT rfl ?_ | refine T.condPT rfl ((h)) ?_ | refine T.condBT rfl ((h)) ?_
  refine T.conv (l' := rZ none ([] : List Int).length 0 [] :: _) (fun w ho => ho.row_nil 2 1) ?_
  refine T.seq ?_
  refine T.region ?_
  refine LW.q rfl (Qt.assign rfl) ?_
  refine LW.q rfl (Qt.assign rfl) ?_
  refine LW.done ?_
  refine T.ret ?_
  exact ⟨.inl rfl, _, _, res [_, _] rfl ⟨rvT rfl, rvT rfl, trivial⟩, ⟨none, 0, by rw [e1, e2]; rfl, by rw [e1]⟩, Sub.any⟩
end Go.Proofs.Ytefognjcognknaa

/- The laws of ritree: step, RitreePlays. Conditions: that the script can be read; sizes. -/
set_option linter.unusedSimpArgs false
set_option linter.unusedVariables false
namespace Go.Proofs.Ytefognjcognknaa
open Go.RowKit
structure OpT where
  kind : Int
  id : Int
  f : Int
  t : Int
abbrev opT (q : OpT) : List Value := [.int .i64 q.kind, .int .i64 q.id, .int .i64 q.f, .int .i64 q.t]
abbrev idOk (q : OpT) : Prop := minI ≤ q.id ∧ q.id < 9223372036854775808
theorem ov_len {M : List PE} {L U : List KV} {N : Nat} (h : RiOk M L U N) (f t : Int) : (ovI M f t).length ≤ N := by
  unfold ovI
  split
  · have hnd : ((M.filter fun e => decide (e.2.1 < t.toNat ∧ f.toNat < e.2.2)).map (·.1)).Nodup := h.nd.sublist (List.filter_sublist.map _)
    have h1 := (all_spec hnd).2.2
    unfold ovZ
    rw [h1, List.length_map]
    exact Nat.le_trans (List.length_filter_le _ _) h.lenM
  · simp
theorem st_ov {M : List PE} {f : Int} (h : okI f) : stI M f = ovI M f (f + 1) := by
  unfold stI ovI
  have h2 : okP f (f + 1) := ⟨h.1, by omega, by have := h.2; omega⟩
  rw [if_pos h, if_pos h2, show (f + 1).toNat = f.toNat + 1 by have := h.1; omega]
set_option maxHeartbeats 8000000 in
set_option maxRecDepth 100000 in
theorem Ri.step (B : Base) (g gl gu gm : Nat) (M : List PE) (L U : List KV) (N : Nat) (hr : RiOk M L U N) (hN : N < 2 ^ 30) (p : Option Addr) (c : Nat) (q : OpT) (hid : idOk q) : Fn Try.prog B 39 #[pV g, .slice p M.length c, .agg (opT q).toArray] (rI p M.length c M :: riL g gl gu gm M L U) (fun u l => ∃ M' L' U' p' c', RiOk M' L' U' (N + 1) ∧ u = .tuple #[.slice p' M'.length c', .bool true] ∧ l = rI p' M'.length c' M' :: riL g gl gu gm M' L' U') := by
 obtain ⟨kind, id, f, t⟩ := q
 obtain ⟨hid1, hid2⟩ := hid
 simp only at hid1 hid2
 have hML := hr.lenM
 refine Fn.enter3 133 Try.func39 rfl rfl (Nat.le_of_ble_eq_true rfl) (fun F => ?_)
 try simp only [List.cons_append, List.nil_append]
 refine T.seq ?_
 refine T.region ?_
 refine LW.e rfl (Ef.box [_, _, _, _] rfl rfl ?_)
 intro g5
 refine LW.q rfl (Qt.assign rfl) ?_
 refine LW.q rfl (Qt.assign rfl) ?_
 refine LW.done ?_
 refine T.seq ?_
 refine T.seq ?_
 refine T.region ?_
 refine LW.q rfl (Qt.fieldAddr0 (by kernel_rfl) rfl) ?_
 first | refine LW.q rfl (Qt.load (by kernel_rfl) rfl rfl) ?_ | refine LW.q rfl (Qt.load (by kernel_rfl) rfl (map_at _ _ _ (by omega))) ?_ | refine LW.q rfl (Qt.load (by kernel_rfl) rfl (flat_cell0 _ _ _ (by intros; rfl) _ (by omega) (by rfl))) ?_ | refine LW.q rfl (Qt.load (by kernel_rfl) rfl (flat_cell _ _ _ (by intros; rfl) _ _ (by omega) (by rfl))) ?_ | refine LW.q rfl (Qt.load (by kernel_rfl) rfl (bytes_at _ _ (by omega))) ?_
 refine LW.done ?_
 refine T.block ?_
 refine T.seq ?_
 refine T.region ?_
 refine LW.q rfl (Qt.eql rfl rfl) ?_
 refine LW.q rfl (Qt.assign rfl) ?_
 refine LW.done ?_
 by_cases hk0 : kind = 0
 ·
  subst hk0
  first | refine T.condT rfl ?_ | refine T.condPT rfl (by omega) ?_ | refine T.condBT rfl (by omega) ?_
  refine T.seq ?_
  refine T.region ?_
  refine LW.q rfl (Qt.move rfl) ?_
  refine LW.q rfl (Qt.fieldAddr (off := 1) (by kernel_rfl) rfl) ?_
  first | refine LW.q rfl (Qt.load (by kernel_rfl) rfl rfl) ?_ | refine LW.q rfl (Qt.load (by kernel_rfl) rfl (map_at _ _ _ (by omega))) ?_ | refine LW.q rfl (Qt.load (by kernel_rfl) rfl (flat_cell0 _ _ _ (by intros; rfl) _ (by omega) (by rfl))) ?_ | refine LW.q rfl (Qt.load (by kernel_rfl) rfl (flat_cell _ _ _ (by intros; rfl) _ _ (by omega) (by rfl))) ?_ | refine LW.q rfl (Qt.load (by kernel_rfl) rfl (bytes_at _ _ (by omega))) ?_
  refine LW.q rfl (Qt.fieldAddr (off := 2) (by kernel_rfl) rfl) ?_
  first | refine LW.q rfl (Qt.loadAgg [_, _] (by kernel_rfl) rfl ⟨rfl, rfl, trivial⟩) ?_ | refine LW.q rfl (Qt.loadAgg [_, _] (by kernel_rfl) rfl (by exact rdl_flat _ _ _ (by intros; rfl) _ (by omega))) ?_
  refine LW.e rfl (Ef.call (Ri.radd B p c M id f t (by omega)) Try.func65 rfl rfl rfl ?_)
  rintro _ _ ⟨p1, c1, rfl, rfl⟩
  try simp only [List.cons_append, List.nil_append]
  refine LW.q rfl (Qt.move rfl) ?_
  refine LW.q rfl (Qt.extr rfl rfl) ?_
  refine LW.q rfl (Qt.extr rfl rfl) ?_
  refine LW.q rfl (Qt.assign rfl) ?_
  refine LW.q rfl (Qt.assign rfl) ?_
  refine LW.done ?_
  refine T.seq ?_
  refine T.region ?_
  refine LW.q rfl (Qt.move rfl) ?_
  refine LW.q rfl (Qt.move rfl) ?_
  refine LW.q rfl (Qt.fieldAddr (off := 1) (by kernel_rfl) rfl) ?_
  first | refine LW.q rfl (Qt.load (by kernel_rfl) rfl rfl) ?_ | refine LW.q rfl (Qt.load (by kernel_rfl) rfl (map_at _ _ _ (by omega))) ?_ | refine LW.q rfl (Qt.load (by kernel_rfl) rfl (flat_cell0 _ _ _ (by intros; rfl) _ (by omega) (by rfl))) ?_ | refine LW.q rfl (Qt.load (by kernel_rfl) rfl (flat_cell _ _ _ (by intros; rfl) _ _ (by omega) (by rfl))) ?_ | refine LW.q rfl (Qt.load (by kernel_rfl) rfl (bytes_at _ _ (by omega))) ?_
  refine LW.q rfl (Qt.fieldAddr (off := 2) (by kernel_rfl) rfl) ?_
  first | refine LW.q rfl (Qt.loadAgg [_, _] (by kernel_rfl) rfl ⟨rfl, rfl, trivial⟩) ?_ | refine LW.q rfl (Qt.loadAgg [_, _] (by kernel_rfl) rfl (by exact rdl_flat _ _ _ (by intros; rfl) _ (by omega))) ?_
  refine LW.e rfl (Ef.call (Ri.addA B g gl gu gm M L U N hr (by omega) id f t hid1 hid2) Try.func33 rfl rfl rfl ?_)
  rintro _ _ ⟨L', U', hr', rfl, rfl⟩
  try simp only [List.cons_append, List.nil_append]
  refine LW.q rfl (Qt.move rfl) ?_
  refine LW.q rfl (Qt.eql rfl rfl) ?_
  refine LW.q rfl (Qt.assign rfl) ?_
  refine LW.q rfl (Qt.assign rfl) ?_
  refine LW.done ?_
  refine T.ret ?_
  exact ⟨.inl rfl, _, _, res [_, _] rfl ⟨rvT rfl, rvT rfl, trivial⟩, ⟨_, L', U', p1, c1, hr', by simp [outV], rfl⟩, Sub.any⟩
 ·
  first | refine T.condF rfl ?_ | refine T.condPF rfl (by omega) ?_ | refine T.condBF rfl (by omega) ?_
  by_cases hk1 : kind = 1
  ·
   subst hk1
   refine T.seq ?_
   refine T.region ?_
   refine LW.q rfl (Qt.eql rfl rfl) ?_
   refine LW.q rfl (Qt.assign rfl) ?_
   refine LW.done ?_
   first | refine T.condT rfl ?_ | refine T.condPT rfl (by omega) ?_ | refine T.condBT rfl (by omega) ?_
   refine T.seq ?_
   refine T.region ?_
   refine LW.q rfl (Qt.move rfl) ?_
   refine LW.q rfl (Qt.fieldAddr (off := 1) (by kernel_rfl) rfl) ?_
   first | refine LW.q rfl (Qt.load (by kernel_rfl) rfl rfl) ?_ | refine LW.q rfl (Qt.load (by kernel_rfl) rfl (map_at _ _ _ (by omega))) ?_ | refine LW.q rfl (Qt.load (by kernel_rfl) rfl (flat_cell0 _ _ _ (by intros; rfl) _ (by omega) (by rfl))) ?_ | refine LW.q rfl (Qt.load (by kernel_rfl) rfl (flat_cell _ _ _ (by intros; rfl) _ _ (by omega) (by rfl))) ?_ | refine LW.q rfl (Qt.load (by kernel_rfl) rfl (bytes_at _ _ (by omega))) ?_
   refine LW.e rfl (Ef.call (Ri.rcut B p c M id hr.nd (by omega)) Try.func66 rfl rfl rfl ?_)
   rintro _ _ ⟨p1, c1, rfl, rfl⟩
   try simp only [List.cons_append, List.nil_append]
   refine LW.q rfl (Qt.move rfl) ?_
   refine LW.q rfl (Qt.extr rfl rfl) ?_
   refine LW.q rfl (Qt.extr rfl rfl) ?_
   refine LW.q rfl (Qt.assign rfl) ?_
   refine LW.q rfl (Qt.assign rfl) ?_
   refine LW.done ?_
   refine T.seq ?_
   refine T.region ?_
   refine LW.q rfl (Qt.move rfl) ?_
   refine LW.q rfl (Qt.move rfl) ?_
   refine LW.q rfl (Qt.fieldAddr (off := 1) (by kernel_rfl) rfl) ?_
   first | refine LW.q rfl (Qt.load (by kernel_rfl) rfl rfl) ?_ | refine LW.q rfl (Qt.load (by kernel_rfl) rfl (map_at _ _ _ (by omega))) ?_ | refine LW.q rfl (Qt.load (by kernel_rfl) rfl (flat_cell0 _ _ _ (by intros; rfl) _ (by omega) (by rfl))) ?_ | refine LW.q rfl (Qt.load (by kernel_rfl) rfl (flat_cell _ _ _ (by intros; rfl) _ _ (by omega) (by rfl))) ?_ | refine LW.q rfl (Qt.load (by kernel_rfl) rfl (bytes_at _ _ (by omega))) ?_
   refine LW.e rfl (Ef.call (Ri.cutA B g gl gu gm M L U N hr (by omega) id) Try.func40 rfl rfl rfl ?_)
   rintro _ _ ⟨L', U', hr', rfl, rfl⟩
   try simp only [List.cons_append, List.nil_append]
   refine LW.q rfl (Qt.move rfl) ?_
   refine LW.q rfl (Qt.eql rfl rfl) ?_
   refine LW.q rfl (Qt.assign rfl) ?_
   refine LW.q rfl (Qt.assign rfl) ?_
   refine LW.done ?_
   refine T.ret ?_
   exact ⟨.inl rfl, _, _, res [_, _] rfl ⟨rvT rfl, rvT rfl, trivial⟩, ⟨_, L', U', p1, c1, hr'.mono (by omega), by simp [outV], rfl⟩, Sub.any⟩
  ·
   refine T.seq ?_
   refine T.region ?_
   refine LW.q rfl (Qt.eql rfl rfl) ?_
   refine LW.q rfl (Qt.assign rfl) ?_
   refine LW.done ?_
   first | refine T.condF rfl ?_ | refine T.condPF rfl (by omega) ?_ | refine T.condBF rfl (by omega) ?_
   by_cases hk2 : kind = 2
   ·
    subst hk2
    refine T.seq ?_
    refine T.region ?_
    refine LW.q rfl (Qt.eql rfl rfl) ?_
    refine LW.q rfl (Qt.assign rfl) ?_
    refine LW.done ?_
    first | refine T.condT rfl ?_ | refine T.condPT rfl (by omega) ?_ | refine T.condBT rfl (by omega) ?_
    have hol := ov_len hr f t
    refine T.seq ?_
    refine T.region ?_
    refine LW.q rfl (Qt.move rfl) ?_
    refine LW.q rfl (Qt.fieldAddr (off := 2) (by kernel_rfl) rfl) ?_
    first | refine LW.q rfl (Qt.loadAgg [_, _] (by kernel_rfl) rfl ⟨rfl, rfl, trivial⟩) ?_ | refine LW.q rfl (Qt.loadAgg [_, _] (by kernel_rfl) rfl (by exact rdl_flat _ _ _ (by intros; rfl) _ (by omega))) ?_
    refine LW.e rfl (Ef.call (Ri.overA B g gl gu gm M L U N hr (by omega) f t) Try.func34 rfl rfl rfl ?_)
    rintro _ _ ⟨p1, c1, rfl, rfl⟩
    try simp only [List.cons_append, List.nil_append]
    refine LW.q rfl (Qt.move rfl) ?_
    refine LW.q rfl (Qt.extr rfl rfl) ?_
    refine LW.q rfl (Qt.extr rfl rfl) ?_
    refine LW.q rfl (Qt.assign rfl) ?_
    refine LW.q rfl (Qt.assign rfl) ?_
    refine LW.done ?_
    refine T.seq ?_
    refine T.region ?_
    refine LW.q rfl (Qt.move rfl) ?_
    refine LW.q rfl (Qt.fieldAddr (off := 2) (by kernel_rfl) rfl) ?_
    first | refine LW.q rfl (Qt.loadAgg [_, _] (by kernel_rfl) rfl ⟨rfl, rfl, trivial⟩) ?_ | refine LW.q rfl (Qt.loadAgg [_, _] (by kernel_rfl) rfl (by exact rdl_flat _ _ _ (by intros; rfl) _ (by omega))) ?_
    refine LW.e rfl (Ef.call (Ri.rover B p c M f t (by omega)) Try.func67 rfl rfl rfl ?_)
    rintro _ _ ⟨p2, c2, rfl, rfl⟩
    try simp only [List.cons_append, List.nil_append]
    refine LW.own fun w1 ho1 => ?_
    have hp1 := (ho1.slice_at (p := p1) (m := (ovI M f t).length) (c := c1) (k := (ovI M f t).length)).2.1
    have hp2 := (ho1.slice_at (p := p2) (m := (ovI M f t).length) (c := c2) (k := (ovI M f t).length)).2.1
    clear ho1
    refine LW.q rfl (Qt.move rfl) ?_
    refine LW.q rfl (Qt.extr rfl rfl) ?_
    refine LW.q rfl (Qt.extr rfl rfl) ?_
    refine LW.q rfl (Qt.assign rfl) ?_
    refine LW.q rfl (Qt.assign rfl) ?_
    refine LW.done ?_
    refine T.seq ?_
    refine T.region ?_
    refine LW.q rfl (Qt.move rfl) ?_
    refine LW.q rfl (Qt.move rfl) ?_
    refine LW.q rfl (Qt.move rfl) ?_
    refine LW.e rfl (Ef.call (rz_any (c1 := c1) (c2 := c2) hp1 hp2 (by omega)) Try.func31 rfl rfl rfl ?_)
    rintro _ _ ⟨rfl, rfl⟩
    try simp only [List.cons_append, List.nil_append]
    refine LW.q rfl (Qt.move rfl) ?_
    first | refine LW.gT (t := 78) rfl rfl ?_ | refine LW.gT (t := 78) rfl (decide_eq_true (by omega)) ?_ | refine LW.gT (t := 78) rfl (by omega) ?_
    refine LW.q rfl (Qt.move rfl) ?_
    refine LW.q rfl (Qt.move rfl) ?_
    refine LW.q rfl (Qt.eql rfl rfl) ?_
    refine LW.q rfl (Qt.pick rfl rfl) ?_
    refine LW.q rfl (Qt.assign rfl) ?_
    refine LW.q rfl (Qt.assign rfl) ?_
    refine LW.done ?_
    refine T.ret ?_
    exact ⟨.inl rfl, _, _, res [_, _] rfl ⟨rvT rfl, rvT rfl, trivial⟩, ⟨M, L, U, p, c, hr.mono (by omega), by simp [outV], rfl⟩, Sub.any⟩
   ·
    refine T.seq ?_
    refine T.region ?_
    refine LW.q rfl (Qt.eql rfl rfl) ?_
    refine LW.q rfl (Qt.assign rfl) ?_
    refine LW.done ?_
    first | refine T.condF rfl ?_ | refine T.condPF rfl (by omega) ?_ | refine T.condBF rfl (by omega) ?_
    by_cases hk3 : kind = 3
    ·
     subst hk3
     refine T.seq ?_
     refine T.region ?_
     refine LW.q rfl (Qt.eql rfl rfl) ?_
     refine LW.q rfl (Qt.assign rfl) ?_
     refine LW.done ?_
     first | refine T.condT rfl ?_ | refine T.condPT rfl (by omega) ?_ | refine T.condBT rfl (by omega) ?_
     refine T.seq ?_
     refine T.region ?_
     refine LW.q rfl (Qt.move rfl) ?_
     refine LW.q rfl (Qt.fieldAddr (off := 2) (by kernel_rfl) rfl) ?_
     refine LW.q rfl (Qt.fieldAddr0 (by kernel_rfl) rfl) ?_
     first | refine LW.q rfl (Qt.load (by kernel_rfl) rfl rfl) ?_ | refine LW.q rfl (Qt.load (by kernel_rfl) rfl (map_at _ _ _ (by omega))) ?_ | refine LW.q rfl (Qt.load (by kernel_rfl) rfl (flat_cell0 _ _ _ (by intros; rfl) _ (by omega) (by rfl))) ?_ | refine LW.q rfl (Qt.load (by kernel_rfl) rfl (flat_cell _ _ _ (by intros; rfl) _ _ (by omega) (by rfl))) ?_ | refine LW.q rfl (Qt.load (by kernel_rfl) rfl (bytes_at _ _ (by omega))) ?_
     refine LW.e rfl (Ef.call (Ri.stabA B g gl gu gm M L U N hr (by omega) f) Try.func41 rfl rfl rfl ?_)
     rintro _ _ ⟨p1, c1, rfl, rfl⟩
     try simp only [List.cons_append, List.nil_append]
     by_cases hf : okI f
     ·
      have hf1 := hf.1
      have hf2 := hf.2
      have e1 : codeS f = 0 := by unfold codeS; rw [if_pos hf]
      have hol := ov_len hr f (f + 1)
      rw [e1, st_ov hf]
      refine LW.q rfl (Qt.move rfl) ?_
      refine LW.q rfl (Qt.extr rfl rfl) ?_
      refine LW.q rfl (Qt.extr rfl rfl) ?_
      refine LW.q rfl (Qt.assign rfl) ?_
      refine LW.q rfl (Qt.assign rfl) ?_
      refine LW.done ?_
      refine T.seq ?_
      refine T.seq ?_
      refine T.region ?_
      refine LW.q rfl (Qt.fieldAddr (off := 2) (by kernel_rfl) rfl) ?_
      refine LW.q rfl (Qt.fieldAddr0 (by kernel_rfl) rfl) ?_
      first | refine LW.q rfl (Qt.load (by kernel_rfl) rfl rfl) ?_ | refine LW.q rfl (Qt.load (by kernel_rfl) rfl (map_at _ _ _ (by omega))) ?_ | refine LW.q rfl (Qt.load (by kernel_rfl) rfl (flat_cell0 _ _ _ (by intros; rfl) _ (by omega) (by rfl))) ?_ | refine LW.q rfl (Qt.load (by kernel_rfl) rfl (flat_cell _ _ _ (by intros; rfl) _ _ (by omega) (by rfl))) ?_ | refine LW.q rfl (Qt.load (by kernel_rfl) rfl (bytes_at _ _ (by omega))) ?_
      refine LW.q rfl (Qt.lss rfl rfl) ?_
      refine LW.q rfl (Qt.move rfl) ?_
      first | refine LW.gF (t := 97) rfl rfl ?_ | refine LW.gF (t := 97) rfl (decide_eq_false ((by omega))) ?_ | refine LW.gF (t := 97) rfl ((by omega)) ?_
      refine LW.q rfl (Qt.fieldAddr (off := 2) (by kernel_rfl) rfl) ?_
      refine LW.q rfl (Qt.fieldAddr0 (by kernel_rfl) rfl) ?_
      first | refine LW.q rfl (Qt.load (by kernel_rfl) rfl rfl) ?_ | refine LW.q rfl (Qt.load (by kernel_rfl) rfl (map_at _ _ _ (by omega))) ?_ | refine LW.q rfl (Qt.load (by kernel_rfl) rfl (flat_cell0 _ _ _ (by intros; rfl) _ (by omega) (by rfl))) ?_ | refine LW.q rfl (Qt.load (by kernel_rfl) rfl (flat_cell _ _ _ (by intros; rfl) _ _ (by omega) (by rfl))) ?_ | refine LW.q rfl (Qt.load (by kernel_rfl) rfl (bytes_at _ _ (by omega))) ?_
      refine LW.q rfl (Qt.geq rfl rfl) ?_
      refine LW.q rfl (Qt.pick rfl rfl) ?_
      refine LW.done ?_
      first | refine T.condF rfl ?_ | refine T.condPF rfl ((by omega)) ?_ | refine T.condBF rfl ((by omega)) ?_
      refine T.skip ?_
      refine T.seq ?_
      refine T.region ?_
      refine LW.q rfl (Qt.move rfl) ?_
      refine LW.q rfl (Qt.fieldAddr (off := 2) (by kernel_rfl) rfl) ?_
      refine LW.q rfl (Qt.fieldAddr0 (by kernel_rfl) rfl) ?_
      first | refine LW.q rfl (Qt.load (by kernel_rfl) rfl rfl) ?_ | refine LW.q rfl (Qt.load (by kernel_rfl) rfl (map_at _ _ _ (by omega))) ?_ | refine LW.q rfl (Qt.load (by kernel_rfl) rfl (flat_cell0 _ _ _ (by intros; rfl) _ (by omega) (by rfl))) ?_ | refine LW.q rfl (Qt.load (by kernel_rfl) rfl (flat_cell _ _ _ (by intros; rfl) _ _ (by omega) (by rfl))) ?_ | refine LW.q rfl (Qt.load (by kernel_rfl) rfl (bytes_at _ _ (by omega))) ?_
      refine LW.q rfl (Qt.fieldAddr (off := 2) (by kernel_rfl) rfl) ?_
      refine LW.q rfl (Qt.fieldAddr0 (by kernel_rfl) rfl) ?_
      first | refine LW.q rfl (Qt.load (by kernel_rfl) rfl rfl) ?_ | refine LW.q rfl (Qt.load (by kernel_rfl) rfl (map_at _ _ _ (by omega))) ?_ | refine LW.q rfl (Qt.load (by kernel_rfl) rfl (flat_cell0 _ _ _ (by intros; rfl) _ (by omega) (by rfl))) ?_ | refine LW.q rfl (Qt.load (by kernel_rfl) rfl (flat_cell _ _ _ (by intros; rfl) _ _ (by omega) (by rfl))) ?_ | refine LW.q rfl (Qt.load (by kernel_rfl) rfl (bytes_at _ _ (by omega))) ?_
      refine LW.q rfl (Qt.add (r := f + 1) rfl rfl (wr64 (by omega) (by omega))) ?_
      refine LW.q rfl (Qt.build [(0, 1), (1, 1)] [.int .i64 0, .int .i64 0] [_, _] [(0, _), (1, _)] (by kernel_rfl) (by unfold zeroB; kernel_rfl) rfl rfl) ?_
      refine LW.e rfl (Ef.call (Ri.rover B p c M f (f + 1) (by omega)) Try.func67 rfl rfl rfl ?_)
      rintro _ _ ⟨p2, c2, rfl, rfl⟩
      try simp only [List.cons_append, List.nil_append]
      refine LW.own fun w1 ho1 => ?_
      have hp1 := (ho1.slice_at (p := p1) (m := (ovI M f (f + 1)).length) (c := c1) (k := (ovI M f (f + 1)).length)).2.1
      have hp2 := (ho1.slice_at (p := p2) (m := (ovI M f (f + 1)).length) (c := c2) (k := (ovI M f (f + 1)).length)).2.1
      clear ho1
      refine LW.q rfl (Qt.move rfl) ?_
      refine LW.q rfl (Qt.extr rfl rfl) ?_
      refine LW.q rfl (Qt.extr rfl rfl) ?_
      refine LW.q rfl (Qt.assign rfl) ?_
      refine LW.q rfl (Qt.assign rfl) ?_
      refine LW.done ?_
      refine T.seq ?_
      refine T.region ?_
      refine LW.q rfl (Qt.move rfl) ?_
      refine LW.q rfl (Qt.move rfl) ?_
      refine LW.q rfl (Qt.eql rfl rfl) ?_
      refine LW.q rfl (Qt.move rfl) ?_
      first | refine LW.gT (t := 127) rfl rfl ?_ | refine LW.gT (t := 127) rfl (decide_eq_true (by omega)) ?_ | refine LW.gT (t := 127) rfl (by omega) ?_
      refine LW.q rfl (Qt.move rfl) ?_
      refine LW.q rfl (Qt.move rfl) ?_
      refine LW.e rfl (Ef.call (rz_any (c1 := c1) (c2 := c2) hp1 hp2 (by omega)) Try.func31 rfl rfl rfl ?_)
      rintro _ _ ⟨rfl, rfl⟩
      try simp only [List.cons_append, List.nil_append]
      refine LW.q rfl (Qt.pick rfl rfl) ?_
      refine LW.q rfl (Qt.assign rfl) ?_
      refine LW.q rfl (Qt.assign rfl) ?_
      refine LW.done ?_
      refine T.ret ?_
      exact ⟨.inl rfl, _, _, res [_, _] rfl ⟨rvT rfl, rvT rfl, trivial⟩, ⟨M, L, U, p, c, hr.mono (by omega), by simp [outV], rfl⟩, Sub.any⟩
     ·
      have e1 : codeS f = 1 := by unfold codeS; rw [if_neg hf]
      have e2 : stI M f = [] := by unfold stI; rw [if_neg hf]
      rw [e1, e2]
      refine LW.q rfl (Qt.move rfl) ?_
      refine LW.q rfl (Qt.extr rfl rfl) ?_
      refine LW.q rfl (Qt.extr rfl rfl) ?_
      refine LW.q rfl (Qt.assign rfl) ?_
      refine LW.q rfl (Qt.assign rfl) ?_
      refine LW.done ?_
      refine T.seq ?_
      refine T.seq ?_
      refine T.region ?_
      refine LW.q rfl (Qt.fieldAddr (off := 2) (by kernel_rfl) rfl) ?_
      refine LW.q rfl (Qt.fieldAddr0 (by kernel_rfl) rfl) ?_
      first | refine LW.q rfl (Qt.load (by kernel_rfl) rfl rfl) ?_ | refine LW.q rfl (Qt.load (by kernel_rfl) rfl (map_at _ _ _ (by omega))) ?_ | refine LW.q rfl (Qt.load (by kernel_rfl) rfl (flat_cell0 _ _ _ (by intros; rfl) _ (by omega) (by rfl))) ?_ | refine LW.q rfl (Qt.load (by kernel_rfl) rfl (flat_cell _ _ _ (by intros; rfl) _ _ (by omega) (by rfl))) ?_ | refine LW.q rfl (Qt.load (by kernel_rfl) rfl (bytes_at _ _ (by omega))) ?_
      refine LW.q rfl (Qt.lss rfl rfl) ?_
      refine LW.q rfl (Qt.move rfl) ?_
      refine LW.split (t := 97) rfl (fun hneg => ?_) (fun hneg => ?_)
      ·
       try replace hneg := of_decide_eq_true hneg
       refine LW.s rfl ?_
       refine LW.s rfl ?_
       refine LW.s rfl ?_
       refine LW.s rfl ?_
       refine LW.q rfl (Qt.pick rfl rfl) ?_
       refine LW.done ?_
       first | refine T.condT rfl ?_ | refine T.condPT rfl (by omega) ?_ | refine T.condBT rfl (by omega) ?_
       refine T.seq ?_
       refine T.region ?_
       refine LW.q rfl (Qt.move rfl) ?_
       refine LW.q rfl (Qt.move rfl) ?_
       refine LW.q rfl (Qt.eql rfl rfl) ?_
       refine LW.q rfl (Qt.move rfl) ?_
       first | refine LW.gT (t := 106) rfl rfl ?_ | refine LW.gT (t := 106) rfl (decide_eq_true (by omega)) ?_ | refine LW.gT (t := 106) rfl (by omega) ?_
       refine LW.q rfl (Qt.move rfl) ?_
       refine LW.q rfl (Qt.len (e := 2) (sz := 1) (by kernel_rfl) rfl) ?_
       refine LW.q rfl (Qt.eql rfl rfl) ?_
       refine LW.q rfl (Qt.pick rfl rfl) ?_
       refine LW.q rfl (Qt.assign rfl) ?_
       refine LW.q rfl (Qt.assign rfl) ?_
       refine LW.done ?_
       refine T.ret ?_
       exact ⟨.inl rfl, _, _, res [_, _] rfl ⟨rvT rfl, rvT rfl, trivial⟩, ⟨M, L, U, p, c, hr.mono (by omega), by simp [outV], rfl⟩, Sub.any⟩
      ·
       try replace hneg := of_decide_eq_false hneg
       refine LW.q rfl (Qt.fieldAddr (off := 2) (by kernel_rfl) rfl) ?_
       refine LW.q rfl (Qt.fieldAddr0 (by kernel_rfl) rfl) ?_
       first | refine LW.q rfl (Qt.load (by kernel_rfl) rfl rfl) ?_ | refine LW.q rfl (Qt.load (by kernel_rfl) rfl (map_at _ _ _ (by omega))) ?_ | refine LW.q rfl (Qt.load (by kernel_rfl) rfl (flat_cell0 _ _ _ (by intros; rfl) _ (by omega) (by rfl))) ?_ | refine LW.q rfl (Qt.load (by kernel_rfl) rfl (flat_cell _ _ _ (by intros; rfl) _ _ (by omega) (by rfl))) ?_ | refine LW.q rfl (Qt.load (by kernel_rfl) rfl (bytes_at _ _ (by omega))) ?_
       refine LW.q rfl (Qt.geq rfl rfl) ?_
       refine LW.q rfl (Qt.pick rfl rfl) ?_
       refine LW.done ?_
       first | refine T.condT rfl ?_ | refine T.condPT rfl ((by have := hf; unfold okI at this; omega)) ?_ | refine T.condBT rfl ((by have := hf; unfold okI at this; omega)) ?_
       refine T.seq ?_
       refine T.region ?_
       refine LW.q rfl (Qt.move rfl) ?_
       refine LW.q rfl (Qt.move rfl) ?_
       refine LW.q rfl (Qt.eql rfl rfl) ?_
       refine LW.q rfl (Qt.move rfl) ?_
       first | refine LW.gT (t := 106) rfl rfl ?_ | refine LW.gT (t := 106) rfl (decide_eq_true (by omega)) ?_ | refine LW.gT (t := 106) rfl (by omega) ?_
       refine LW.q rfl (Qt.move rfl) ?_
       refine LW.q rfl (Qt.len (e := 2) (sz := 1) (by kernel_rfl) rfl) ?_
       refine LW.q rfl (Qt.eql rfl rfl) ?_
       refine LW.q rfl (Qt.pick rfl rfl) ?_
       refine LW.q rfl (Qt.assign rfl) ?_
       refine LW.q rfl (Qt.assign rfl) ?_
       refine LW.done ?_
       refine T.ret ?_
       exact ⟨.inl rfl, _, _, res [_, _] rfl ⟨rvT rfl, rvT rfl, trivial⟩, ⟨M, L, U, p, c, hr.mono (by omega), by simp [outV], rfl⟩, Sub.any⟩
    ·
     refine T.seq ?_
     refine T.region ?_
     refine LW.q rfl (Qt.eql rfl rfl) ?_
     refine LW.q rfl (Qt.assign rfl) ?_
     refine LW.done ?_
     first | refine T.condF rfl ?_ | refine T.condPF rfl (by omega) ?_ | refine T.condBF rfl (by omega) ?_
     refine T.skip ?_
     refine T.seq ?_
     refine T.region ?_
     refine LW.q rfl (Qt.move rfl) ?_
     refine LW.q rfl (Qt.assign rfl) ?_
     refine LW.q rfl (Qt.assign rfl) ?_
     refine LW.done ?_
     refine T.ret ?_
     exact ⟨.inl rfl, _, _, res [_, _] rfl ⟨rvT rfl, rvT rfl, trivial⟩, ⟨M, L, U, p, c, hr.mono (by omega), by simp [outV], rfl⟩, Sub.any⟩
/-- A slice of calls that lies in memory that is only read. -/
def RoLT (B : Base) (v : Value) (l : List OpT) : Prop := ∃ a cap, v = .slice a l.length cap ∧ (l = [] ∨ ∃ b o C, a = some ⟨b, o, none⟩ ∧ ROc B b C ∧
  ∀ i (hi : i < l.length), rdl C (o + i * 4) (opT l[i]))
set_option maxHeartbeats 8000000 in
set_option maxRecDepth 100000 in
theorem Ri.plays (B : Base) (v : Value) (sc : List OpT) (hv : RoLT B v sc) (hids : ∀ q ∈ sc, idOk q) (hn : sc.length < 2 ^ 29) : Fn Try.prog B 10 #[v] [] (fun u l => u = .bool true ∧ l = []) := by
 obtain ⟨sa, scap, rfl, hsc⟩ := hv
 refine Fn.enter1 34 Try.func10 rfl rfl (Nat.le_of_ble_eq_true rfl) (fun F => ?_)
 try simp only [List.cons_append, List.nil_append]
 refine T.seq ?_
 refine T.region ?_
 refine LW.q rfl (Qt.assign rfl) ?_
 refine LW.done ?_
 refine T.seq ?_
 refine T.seq ?_
 refine T.region ?_
 refine LW.e rfl (Ef.call (Ri.awake B) Try.func26 rfl rfl rfl ?_)
 rintro _ _ ⟨rfl, rfl⟩
 try simp only [List.cons_append, List.nil_append]
 first | refine LW.q rfl (Qt.notP rfl) ?_ | refine LW.q rfl (Qt.notB rfl) ?_
 refine LW.done ?_
 first | refine T.condF rfl ?_ | refine T.condPF rfl (by omega) ?_ | refine T.condBF rfl (by omega) ?_
 refine T.skip ?_
 refine T.seq ?_
 refine T.region ?_
 refine LW.e rfl (Ef.call (Ri.new B) Try.func32 rfl rfl rfl ?_)
 rintro _ _ ⟨g, gl, gu, gm, rfl, rfl⟩
 try simp only [List.cons_append, List.nil_append]
 refine LW.q rfl (Qt.assign rfl) ?_
 refine LW.done ?_
 refine T.seq ?_
 refine T.region ?_
 refine LW.q rfl (Qt.assign rfl) ?_
 refine LW.done ?_
 refine T.seq ?_
 refine T.region ?_
 refine LW.q rfl (Qt.assign rfl) ?_
 refine LW.done ?_
 refine T.seq ?_
 refine T.seq ?_
 refine T.region ?_
 refine LW.q rfl (Qt.move rfl) ?_
 refine LW.q rfl (Qt.len (e := 85) (sz := 4) (by kernel_rfl) rfl) ?_
 refine LW.q rfl (Qt.move rfl) ?_
 refine LW.done ?_
 refine T.block ?_
 refine T.conv (l' := rI none ([] : List PE).length 0 [] :: _) (fun w ho => ho.row_nil 150 3) ?_
 refine T.loop (fun mz fz lz => ∃ (f0 : Fr) (i : Nat) (M : List PE) (L U : List KV) (p : Option Addr) (c : Nat), (i ≤ sc.length ∧ RiOk M L U i) ∧ mz = sc.length - i ∧ fz = (upd (upd (upd (upd (upd f0 3 (pV g)) 4 (.slice p M.length c)) 11 (.slice sa sc.length scap)) 12 (.int .i64 sc.length)) 13 (.int .i64 i)) ∧ lz = rI p M.length c M :: (riL g gl gu gm M L U ++ F)) ?_ ?_
 · refine ⟨_, _, ⟨_, 0, [], [], [], none, 0, ⟨Nat.zero_le _, RiOk.nil⟩, rfl, (updS rfl (updS rfl (updS rfl (updS rfl (updS rfl rfl))))), rfl⟩, Sub.any⟩
 ·
  rintro mz fz lz ⟨f0, i, M, L, U, p, c, ⟨hi, hr⟩, hmz, rfl, rfl⟩
  subst mz
  try simp only [List.cons_append, List.nil_append]
  refine T.seq ?_
  refine T.region ?_
  refine LW.q rfl (Qt.lss rfl rfl) ?_
  refine LW.done ?_
  refine T.seq ?_
  refine T.condP rfl (fun hlt => ?_) (fun hlt => ?_)
  ·
   have hix : i < sc.length := by omega
   obtain ⟨kb, ko, C, rfl, hro, hC⟩ := hsc.resolve_left (by intro e; rw [e] at hix; simp at hix)
   have hrd := hC i hix
   have hid := hids _ (List.getElem_mem hix)
   obtain ⟨q, hq⟩ : ∃ q, sc[i] = q := ⟨_, rfl⟩
   rw [hq] at hrd hid
   refine T.skip ?_
   refine T.seq ?_
   refine T.block ?_
   refine T.seq ?_
   refine T.region ?_
   refine LW.q rfl (Qt.index i (e := 85) (sz := 4) (by kernel_rfl) rfl rfl rfl hix) ?_
   refine LW.q rfl (Qt.loadAgg [_, _, _, _] (by kernel_rfl) rfl hrd) ?_
   refine LW.e rfl (Ef.alloc [.int .i64 0, .int .i64 0, .int .i64 0, .int .i64 0] (by unfold zeroB; kernel_rfl) ?_)
   intro g7
   refine LW.e0 rfl (Ef.store [_, _, _, _] (by kernel_rfl) rfl rfl rfl rfl (by simp) ?_)
   try simp only [splice, List.length_cons, List.length_nil, List.drop_succ_cons, List.cons_append, List.take_succ_cons, List.take_zero, List.drop_zero, List.nil_append, List.append_nil]
   refine LW.done ?_
   refine T.seq ?_
   refine T.region ?_
   refine LW.q rfl (Qt.move rfl) ?_
   refine LW.q rfl (Qt.move rfl) ?_
   first | refine LW.q rfl (Qt.loadAgg [_, _, _, _] (by kernel_rfl) rfl ⟨rfl, rfl, rfl, rfl, trivial⟩) ?_ | refine LW.q rfl (Qt.loadAgg [_, _, _, _] (by kernel_rfl) rfl (by exact rdl_flat _ _ _ (by intros; rfl) _ (by omega))) ?_
   refine LW.e rfl (Ef.call (Ri.step B g gl gu gm M L U i hr (by omega) p c q hid) Try.func39 rfl rfl rfl ?_)
   rintro _ _ ⟨M2, L2, U2, p2, c2, hr2, rfl, rfl⟩
   try simp only [List.cons_append, List.nil_append]
   refine LW.q rfl (Qt.move rfl) ?_
   refine LW.q rfl (Qt.extr rfl rfl) ?_
   refine LW.q rfl (Qt.extr rfl rfl) ?_
   refine LW.q rfl (Qt.assign rfl) ?_
   refine LW.q rfl (Qt.assign rfl) ?_
   refine LW.done ?_
   refine T.seq ?_
   refine T.region ?_
   refine LW.q rfl (Qt.move rfl) ?_
   first | refine LW.q rfl (Qt.notP rfl) ?_ | refine LW.q rfl (Qt.notB rfl) ?_
   refine LW.q rfl (Qt.move rfl) ?_
   first | refine LW.gF (t := 26) rfl rfl ?_ | refine LW.gF (t := 26) rfl (decide_eq_false (rfl)) ?_ | refine LW.gF (t := 26) rfl (rfl) ?_
   refine LW.q rfl (Qt.move rfl) ?_
   refine LW.e rfl (Ef.call (Ri.len B g gl gu gm M2 L2 U2) Try.func35 rfl rfl rfl ?_)
   rintro _ _ ⟨rfl, rfl⟩
   try simp only [List.cons_append, List.nil_append]
   refine LW.q rfl (Qt.move rfl) ?_
   refine LW.q rfl (Qt.len (e := 150) (sz := 3) (by kernel_rfl) rfl) ?_
   refine LW.q rfl (Qt.neq rfl rfl) ?_
   refine LW.q rfl (Qt.pick rfl rfl) ?_
   refine LW.done ?_
   first | refine T.condF rfl ?_ | refine T.condPF rfl ((by simp)) ?_ | refine T.condBF rfl ((by simp)) ?_
   refine T.skip ?_
   refine T.region ?_
   refine LW.q rfl (Qt.add rfl rfl (wr64 (by omega) (by omega))) ?_
   refine LW.q rfl (Qt.move rfl) ?_
   refine LW.done ?_
   refine ⟨_, ?_, _, ⟨_, i + 1, M2, L2, U2, p2, c2, ⟨by omega, hr2⟩, rfl, (updS rfl (updS rfl (updS rfl (updS rfl (updS rfl rfl))))), rfl⟩, Sub.any⟩
   first | omega | (simp; omega)
  ·
   refine T.exit ?_
   refine T.seq ?_
   refine T.region ?_
   refine LW.q rfl (Qt.assign rfl) ?_
   refine LW.done ?_
   refine T.ret ?_
   exact ⟨.inl rfl, _, _, res [_] rfl ⟨rvT rfl, trivial⟩, ⟨rfl, rfl⟩, Sub.any⟩
end Go.Proofs.Ytefognjcognknaa

/- How calls of annalslaw10 read. Conditions: none. -/
set_option linter.unusedSimpArgs false
set_option linter.unusedVariables false
namespace Go.Proofs.Ytefognjcognknaa
open Go.ChangeShapes Go.WideShapes Go.ChangeAt Go.RowKit
def OpTR (cs : List Value) (q : OpT) : Prop := cs = opT q ∧ idOk q
section
variable {H : Type} {enc : TypeId × Value → H} {W : World}
theorem read_opT (n : Nat) (cs : List Value) (y : DataW H × List MemPlace) (h : Tr enc Try.prog W n 85 cs = some y) : ∃ q : OpT, OpTR cs q ∧ 1 ≤ Rows.uptoBulk y.1 := by
  obtain ⟨xs, m, rfl, rfl, hl, hx, hf⟩ := DataW.trod_struct Try.underlying85 h
  rw [show Try.prog.cellsOf 85 = 4 by kernel_rfl] at hl
  have four : ∀ {α : Type} {l : List α}, l.length = 4 → ∃ a b c d, l = [a, b, c, d] := fun {α} {l} h => by
    match l, h with
    | [a, b, c, d], _ => exact ⟨a, b, c, d, rfl⟩
  have three : ∀ {α : Type} {l : List α}, l.length = 3 → ∃ a b c, l = [a, b, c] := fun {α} {l} h => by
    match l, h with
    | [a, b, c], _ => exact ⟨a, b, c, rfl⟩
  obtain ⟨c0, c1, c2, c3, rfl⟩ := four hl
  obtain ⟨x0, x1, x2, rfl⟩ := three hx
  have k0 : Try.prog.cellsOf 3 = 1 := by kernel_rfl
  have k1 : Try.prog.cellsOf 2 = 1 := by kernel_rfl
  have k2 : Try.prog.cellsOf 57 = 2 := by kernel_rfl
  have f0 := field_of hf 0 3 0 1 rfl k0
  have f1 := field_of hf 1 2 1 1 rfl k1
  have f2 := field_of hf 2 57 2 2 rfl k2
  simp only [List.drop_zero, List.drop_succ_cons, List.take_succ_cons, List.take_zero, List.getElem?_cons_zero, List.getElem?_cons_succ] at f0 f1 f2
  obtain ⟨i0, e0, b0, _⟩ := DataW.trod_int Try.underlying3 f0
  obtain ⟨i1, ⟨e1, w1, w2⟩, b1⟩ := read_i64 Try.underlying2 _ _ _ f1
  obtain ⟨⟨pf, pt⟩, e2, b2⟩ := read_pd _ _ _ f2
  unfold PdR at e2
  simp only [List.cons.injEq, and_true] at e0 e1 e2
  obtain ⟨e2, e3⟩ := e2
  subst e0; subst e1; subst e2; subst e3
  refine ⟨⟨i0, i1, pf, pt⟩, ⟨rfl, ?_⟩, ?_⟩
  · exact ⟨w1, by simp only; omega⟩
  · simp only [List.map_cons, List.map_nil, Rows.uptoBulk, Rows.uptoBulkAll]
    omega
end
theorem ones_op : ∀ l : List OpT, (l.map fun _ => 1).sum = l.length
  | [] => rfl
  | a :: l => by rw [List.map_cons, List.sum_cons, ones_op l, List.length_cons]; omega
theorem SliceAt.roLT {W : World} {v : Value} {l : List OpT} (h : SliceAt W 4 OpTR v l) : RoLT (baseOf W) v l ∧ ∀ q ∈ l, idOk q := by
  obtain ⟨sa, sc, e, h⟩ := h.ro (by omega)
  rcases h with rfl | ⟨b, o, C, e1, e2, h⟩
  · exact ⟨⟨sa, sc, e, .inl rfl⟩, (fun _ h => nomatch h)⟩
  · refine ⟨⟨sa, sc, e, .inr ⟨b, o, C, e1, e2, fun i hi => ?_⟩⟩, fun q hq => ?_⟩
    · obtain ⟨cells, h1, h2⟩ := h i hi
      rw [h2.1] at h1
      exact h1
    · obtain ⟨i, hi, rfl⟩ := List.getElem_of_mem hq
      obtain ⟨cells, h1, h2⟩ := h i hi
      exact h2.2
end Go.Proofs.Ytefognjcognknaa

/- The law RitreePlays of annalslaw10 holds: for all arguments of bulk at most 1048576 the call returns true and the arguments read as before. Condition: the bound of the second form. -/
set_option linter.unusedSimpArgs false
set_option linter.unusedVariables false
namespace Go.Proofs.Ytefognjcognknaa.ritreePlays
open Go.ChangeShapes Go.WideShapes Go.ChangeAt Go.RowKit
theorem bulk_one {H : Type} (a : DataW H) : Rows.uptoBulkAll [a] = Rows.uptoBulk a := by simp [Rows.uptoBulkAll]
set_option maxRecDepth 100000 in
theorem contract (H : Type) (enc : TypeId × Value → H) (W : World) (base : Nat) (args : Array Value) (ds gs : List (DataW H)) (before : List MemPlace)
    (hval : ∀ (j : Nat) t v, Try.f10.params[j]? = some t → args[j]? = some v → Value.okWide Try.prog W .any base t v)
    (hW : DataW.Whole enc Try.prog Try.f10.params.toList Rows.ritreePlaysSpec.vars false W args.toList ds gs before) (hk : Rows.uptoSmall H (ds ++ gs) = true) :
    Calls Try.prog 10 args W fun e W' => ∃ v, e = .returned v ∧ Rows.ritreePlaysSpec.post enc Try.prog Try.f10 false true false false W args v W' := by
  have hW0 := hW
  obtain ⟨p, q, hA0, hV, rfl, hfz, hnd⟩ := hW
  have hA : DataW.TrodAll enc Try.prog W 0 (fun _ => true) true Try.f10.params.toList args.toList ds p := hA0
  rw [Try.params10] at hA hval
  obtain ⟨v0, d0, rfl, rfl, h0⟩ := trodAll_one hA
  obtain ⟨rfl, rfl⟩ := trodVars_none hV
  have hbulk := Try.upto_bound hk
  rw [List.append_nil] at hbulk
  clear hA0 hV hk
  obtain ⟨sa0, sl0, sc0, rfl⟩ := okWide_slice Try.underlying82 (hval 0 82 v0 rfl rfl)
  obtain ⟨fu0, t0⟩ := h0
  obtain ⟨sv0, l0, hc0, hs0, hB0, hL0⟩ := open_slice_R (enc := enc) (P := Try.prog) (W := W) (R := OpTR) (B := fun _ => 1) Try.underlying82 (show Try.prog.cellsOf 85 = 4 by kernel_rfl) (by omega) (fun n cs y => read_opT n cs y) t0
  simp only [Value.cells, List.cons.injEq, and_true] at hc0
  subst hc0
  dsimp only at hB0 hL0
  have hlen0 := ones_op l0
  rw [bulk_one] at hbulk

  refine (Fn.law (Ri.plays _ _ l0 hs0.roLT.1 hs0.roLT.2 (by omega))).mono fun e W' ⟨he, hg⟩ => ?_
  subst he
  exact ⟨_, rfl, post_law Try.laidOut hW0 rfl rfl 4 Try.underlying4 (by kernel_rfl) (by rw [Try.params10]; decide +kernel) hg.toBelow⟩

set_option maxRecDepth 100000 in
theorem lifted (os : Os) (started : os.Started) (H : Type) (enc : TypeId × Value → H) (F : Stop.Interp) :
    ReturnsInHanded {} Try.checked os 10 .any ((Rows.OpenSpec.upto Rows.ritreePlaysSpec).pre6 enc Try.prog Try.f10 Rows.ritreePlaysUptoRow.domain false) (((Rows.OpenSpec.upto Rows.ritreePlaysSpec).at F).post enc Try.prog Try.f10 false true false false) := by
  refine returnsInHanded_of_cond (C := Try.checked) (s := Rows.OpenSpec.upto Rows.ritreePlaysSpec) (k := Rows.uptoSmall) rfl Try.own started (by kernel_rfl) Try.func10
    (OpenSpec.witness (enc := enc) (C := Try.checked) (s := Rows.OpenSpec.upto Rows.ritreePlaysSpec) (k := Rows.uptoSmall) rfl false ⟨#[], #[.slice none 0 0], []⟩ 8 (by kernel_rfl) (by kernel_rfl) (by kernel_rfl)
      (x := ([.nil], [], [])) (by kernel_rfl) rfl (by kernel_rfl)) ?_
  intro W base args ds gs before hval hW _ hk _
  exact contract H enc W base args ds gs before hval hW hk

theorem over : Rows.ritreePlaysUptoRow.holds Try.pinned (Rows.OpenSpec.upto Rows.ritreePlaysSpec) :=
  OpenClaim.holds_of_cond 10 Try.f10 rfl rfl rfl rfl rfl rfl rfl ⟨rfl, rfl, rfl, rfl, rfl⟩ rfl rfl rfl rfl rfl (by kernel_rfl) Try.func10 (by kernel_rfl)
    (of_decide_eq_true (by kernel_rfl)) (by unfold Func.isWrapper; first | (rw [if_pos (by decide +kernel)]; kernel_rfl) | (rw [if_neg (by decide +kernel)]; exact ⟨rfl, rfl⟩))
    (fun os started H enc _ F => lifted os started H enc F)

theorem proved : Rows.RitreePlaysUptoSaid := over
end Go.Proofs.Ytefognjcognknaa.ritreePlays
