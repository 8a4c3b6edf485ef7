/- The law RitreeForks of annalslaw10 holds: for all arguments of bulk at most 1048576 the call returns true and the arguments read as before. Condition: the bound of the second form. -/
import Derived.Test.YtefognjcognknaaZRiBasf14
/- The document's answer: Right, Fork, Ancestors, with, Nodes. Conditions: sizes. -/
set_option linter.unusedSimpArgs false
set_option linter.unusedVariables false
namespace Go.Proofs.Ytefognjcognknaa
open Go.RowKit
theorem wr64_nat {m : Nat} (h : m < 2 ^ 63) : IntKind.i64.wrap (m : Int) = m := wr64 (by omega) (by omega)
section
variable {P : Program} {B : Base} {n : Nat} {S : List Assn} {f : Fr}
variable {d : Option Tmp} {ty : TypeId} {pos : String} {af : Array Edge} {gd : Option (Nat × Bool)}
theorem Qt.quoN {t t2 : TypeId} {x y : Operand} {k : IntKind} {z w : Int} (a b : Nat) (hx : ev n f x = some (.int k z)) (hz : z = (a : Int)) (hy : ev n f y = some (.int k w)) (hw : w = (b : Int)) (hb : b ≠ 0) (hr : k.wrap ((a / b : Nat) : Int) = ((a / b : Nat) : Int)) : Qt P B n S ⟨d, .binOp .quo t x y t2, ty, pos, af, gd⟩ f (.int k ((a / b : Nat) : Int)) := by
  subst hz; subst hw
  exact Qt.quo hx hy (by omega) hr
theorem Qt.remN {t t2 : TypeId} {x y : Operand} {k : IntKind} {z w : Int} (a b : Nat) (hx : ev n f x = some (.int k z)) (hz : z = (a : Int)) (hy : ev n f y = some (.int k w)) (hw : w = (b : Int)) (hb : b ≠ 0) : Qt P B n S ⟨d, .binOp .rem t x y t2, ty, pos, af, gd⟩ f (.int k ((a % b : Nat) : Int)) := by
  subst hz; subst hw
  exact Qt.rem hx hy (by omega) rfl
theorem Qt.mulN {t t2 : TypeId} {x y : Operand} {k : IntKind} {z w : Int} (a b : Nat) (hx : ev n f x = some (.int k z)) (hz : z = (a : Int)) (hy : ev n f y = some (.int k w)) (hw : w = (b : Int)) (hr : k.wrap ((a * b : Nat) : Int) = ((a * b : Nat) : Int)) : Qt P B n S ⟨d, .binOp .mul t x y t2, ty, pos, af, gd⟩ f (.int k ((a * b : Nat) : Int)) := by
  subst hz; subst hw
  exact Qt.mul hx hy (by rw [← Int.natCast_mul]; exact hr)
end
theorem Ri.right (B : Base) (f t : Int) : Fn Try.prog B 57 #[pdV f t] [] (fun u l => u = .bool (decide (okP f t)) ∧ l = []) := by
 refine Fn.enter1 18 Try.func57 rfl rfl (Nat.le_of_ble_eq_true rfl) (fun F => ?_)
 try simp only [List.cons_append, List.nil_append]
 refine T.seq ?_
 refine T.region ?_
 refine LW.e rfl (Ef.box [_, _] rfl rfl ?_)
 intro g1
 refine LW.q rfl (Qt.assign rfl) ?_
 refine LW.done ?_
 refine T.seq ?_
 refine T.region ?_
 refine LW.q rfl (Qt.fieldAddr0 (by kernel_rfl) rfl) ?_
 first | refine LW.q rfl (Qt.load (by kernel_rfl) rfl rfl) ?_ | refine LW.q rfl (Qt.load (by kernel_rfl) rfl (map_at _ _ _ (by omega))) ?_ | refine LW.q rfl (Qt.load (by kernel_rfl) rfl (flat_cell0 _ _ _ (by intros; rfl) _ (by omega) (by rfl))) ?_ | refine LW.q rfl (Qt.load (by kernel_rfl) rfl (flat_cell _ _ _ (by intros; rfl) _ _ (by omega) (by rfl))) ?_ | refine LW.q rfl (Qt.load (by kernel_rfl) rfl (bytes_at _ _ (by omega))) ?_
 refine LW.q rfl (Qt.geq rfl rfl) ?_
 refine LW.q rfl (Qt.move rfl) ?_
 refine LW.split (t := 6) rfl (fun h1 => ?_) (fun h1 => ?_)
 ·
  try replace h1 := of_decide_eq_true h1
  refine LW.q rfl (Qt.fieldAddr0 (by kernel_rfl) rfl) ?_
  first | refine LW.q rfl (Qt.load (by kernel_rfl) rfl rfl) ?_ | refine LW.q rfl (Qt.load (by kernel_rfl) rfl (map_at _ _ _ (by omega))) ?_ | refine LW.q rfl (Qt.load (by kernel_rfl) rfl (flat_cell0 _ _ _ (by intros; rfl) _ (by omega) (by rfl))) ?_ | refine LW.q rfl (Qt.load (by kernel_rfl) rfl (flat_cell _ _ _ (by intros; rfl) _ _ (by omega) (by rfl))) ?_ | refine LW.q rfl (Qt.load (by kernel_rfl) rfl (bytes_at _ _ (by omega))) ?_
  refine LW.q rfl (Qt.fieldAddr (off := 1) (by kernel_rfl) rfl) ?_
  first | refine LW.q rfl (Qt.load (by kernel_rfl) rfl rfl) ?_ | refine LW.q rfl (Qt.load (by kernel_rfl) rfl (map_at _ _ _ (by omega))) ?_ | refine LW.q rfl (Qt.load (by kernel_rfl) rfl (flat_cell0 _ _ _ (by intros; rfl) _ (by omega) (by rfl))) ?_ | refine LW.q rfl (Qt.load (by kernel_rfl) rfl (flat_cell _ _ _ (by intros; rfl) _ _ (by omega) (by rfl))) ?_ | refine LW.q rfl (Qt.load (by kernel_rfl) rfl (bytes_at _ _ (by omega))) ?_
  refine LW.q rfl (Qt.lss rfl rfl) ?_
  refine LW.q rfl (Qt.pick rfl rfl) ?_
  refine LW.q rfl (Qt.move rfl) ?_
  refine LW.split (t := 13) rfl (fun h2 => ?_) (fun h2 => ?_)
  ·
   try replace h2 := of_decide_eq_true h2
   refine LW.q rfl (Qt.fieldAddr (off := 1) (by kernel_rfl) rfl) ?_
   first | refine LW.q rfl (Qt.load (by kernel_rfl) rfl rfl) ?_ | refine LW.q rfl (Qt.load (by kernel_rfl) rfl (map_at _ _ _ (by omega))) ?_ | refine LW.q rfl (Qt.load (by kernel_rfl) rfl (flat_cell0 _ _ _ (by intros; rfl) _ (by omega) (by rfl))) ?_ | refine LW.q rfl (Qt.load (by kernel_rfl) rfl (flat_cell _ _ _ (by intros; rfl) _ _ (by omega) (by rfl))) ?_ | refine LW.q rfl (Qt.load (by kernel_rfl) rfl (bytes_at _ _ (by omega))) ?_
   refine LW.q rfl (Qt.leq rfl rfl) ?_
   refine LW.q rfl (Qt.pick rfl rfl) ?_
   refine LW.q rfl (Qt.assign rfl) ?_
   refine LW.done ?_
   refine T.ret ?_
   exact ⟨.inl rfl, _, _, res [_] rfl ⟨rvT rfl, trivial⟩, ⟨congrArg Value.bool (decide_eq_decide.2 ⟨fun h => ⟨by omega, by omega, by omega⟩, fun h => by obtain ⟨_, _, h⟩ := h; omega⟩), rfl⟩, Sub.any⟩
  ·
   try replace h2 := of_decide_eq_false h2
   refine LW.s rfl ?_
   refine LW.s rfl ?_
   refine LW.s rfl ?_
   refine LW.q rfl (Qt.pick rfl rfl) ?_
   refine LW.q rfl (Qt.assign rfl) ?_
   refine LW.done ?_
   refine T.ret ?_
   exact ⟨.inl rfl, _, _, res [_] rfl ⟨rvT rfl, trivial⟩, ⟨congrArg Value.bool (decide_eq_false (fun h => by obtain ⟨_, h, _⟩ := h; omega)).symm, rfl⟩, Sub.any⟩
 ·
  try replace h1 := of_decide_eq_false h1
  refine LW.s rfl ?_
  refine LW.s rfl ?_
  refine LW.s rfl ?_
  refine LW.s rfl ?_
  refine LW.s rfl ?_
  refine LW.q rfl (Qt.pick rfl rfl) ?_
  refine LW.q rfl (Qt.move rfl) ?_
  first | refine LW.gF (t := 13) rfl rfl ?_ | refine LW.gF (t := 13) rfl (decide_eq_false (by omega)) ?_ | refine LW.gF (t := 13) rfl (by omega) ?_
  refine LW.s rfl ?_
  refine LW.s rfl ?_
  refine LW.s rfl ?_
  refine LW.q rfl (Qt.pick rfl rfl) ?_
  refine LW.q rfl (Qt.assign rfl) ?_
  refine LW.done ?_
  refine T.ret ?_
  exact ⟨.inl rfl, _, _, res [_] rfl ⟨rvT rfl, trivial⟩, ⟨congrArg Value.bool (decide_eq_false (fun h => by obtain ⟨h, _, _⟩ := h; omega)).symm, rfl⟩, Sub.any⟩
/-- The first multiple of a power. -/
def ceilN (a k : Nat) : Nat := (a + 2 ^ k - 1) / 2 ^ k * 2 ^ k
theorem ref_lev {a b : Nat} (h : a < b) (hb : b ≤ 1099511627776) : ∃ lev, lev ≤ 41 ∧ (∀ k, lev < k → k ≤ 41 → b ≤ ceilN a k) ∧ ceilN a lev = forkN a b := by
  rcases Nat.eq_zero_or_pos a with rfl | h0
  · refine ⟨41, Nat.le_refl _, fun k h1 h2 => by omega, ?_⟩
    simp [ceilN, forkN]
  · obtain ⟨j, q, e1, e2, e3, e4⟩ := fork_spec h0 h
    have hne : (a - 1) ^^^ (b - 1) ≠ 0 := fun e => by have := xor_zero e; omega
    have hx : (a - 1) ^^^ (b - 1) < 2 ^ 40 := Nat.xor_lt_two_pow (by omega) (by omega)
    have hj : j < 40 := by
      have := ((lenN_iff hne).1 e1).1
      exact (Nat.pow_lt_pow_iff_right (by omega)).1 (show 2 ^ j < 2 ^ 40 by omega)
    have hc : ∀ k, ceilN a k = ((a - 1) / 2 ^ k + 1) * 2 ^ k := fun k => by
      unfold ceilN
      have hp := Nat.two_pow_pos k
      rw [show a + 2 ^ k - 1 = (a - 1) + 2 ^ k by omega, Nat.add_div_right _ hp]
    refine ⟨j, by omega, fun k h1 h2 => ?_, by rw [hc, e2, e4]⟩
    rw [hc]
    have hp := Nat.two_pow_pos k
    have e5 : (a - 1) / 2 ^ k = (b - 1) / 2 ^ k := by
      obtain ⟨d, rfl⟩ : ∃ d, k = j + 1 + d := ⟨k - (j + 1), by omega⟩
      rw [Nat.pow_add, Nat.pow_succ, ← Nat.div_div_eq_div_mul, ← Nat.div_div_eq_div_mul, ← Nat.div_div_eq_div_mul, ← Nat.div_div_eq_div_mul, e2, e3]
      congr 1; omega
    have := (Nat.div_lt_iff_lt_mul hp).1 (show (b - 1) / 2 ^ k < (a - 1) / 2 ^ k + 1 by omega)
    omega
theorem ceil_le {a k : Nat} (hk : k ≤ 41) (ha : a < 2 ^ 40) : ceilN a k < 2 ^ 43 := by
  unfold ceilN
  have h1 := Nat.div_mul_le_self (a + 2 ^ k - 1) (2 ^ k)
  have h2 : 2 ^ k ≤ 2 ^ 41 := Nat.pow_le_pow_right (by omega) hk
  omega
set_option maxHeartbeats 2000000 in
set_option maxRecDepth 100000 in
theorem Ri.rfork (B : Base) (f t : Int) : Fn Try.prog B 28 #[pdV f t] [] (fun u l => u = .tuple #[.int .i64 (forkI f t), .int .i64 (codeP f t)] ∧ l = []) := by
 refine Fn.enter1 30 Try.func28 rfl rfl (Nat.le_of_ble_eq_true rfl) (fun F => ?_)
 try simp only [List.cons_append, List.nil_append]
 refine T.seq ?_
 refine T.region ?_
 refine LW.e rfl (Ef.box [_, _] rfl rfl ?_)
 intro g1
 refine LW.q rfl (Qt.assign rfl) ?_
 refine LW.q rfl (Qt.assign rfl) ?_
 refine LW.done ?_
 refine T.seq ?_
 refine T.seq ?_
 refine T.region ?_
 first | refine LW.q rfl (Qt.loadAgg [_, _] (by kernel_rfl) rfl ⟨rfl, rfl, trivial⟩) ?_ | refine LW.q rfl (Qt.loadAgg [_, _] (by kernel_rfl) rfl (by exact rdl_flat _ _ _ (by intros; rfl) _ (by omega))) ?_
 refine LW.e rfl (Ef.call (Ri.right B f t) Try.func57 rfl rfl rfl ?_)
 rintro _ _ ⟨rfl, rfl⟩
 try simp only [List.cons_append, List.nil_append]
 by_cases h : okP f t
 ·
  first | refine LW.q rfl (Qt.notP rfl) ?_ | refine LW.q rfl (Qt.notB rfl) ?_
  refine LW.done ?_
  first | refine T.condF rfl ?_ | refine T.condPF rfl ((fun k => k h)) ?_ | refine T.condBF rfl ((fun k => k h)) ?_
  obtain ⟨a, b, rfl, rfl, hab, hb⟩ := okP_nat h
  obtain ⟨lev, hl1, hl2, hl3⟩ := ref_lev hab hb
  refine T.skip ?_
  refine T.seq ?_
  refine T.seq ?_
  refine T.region ?_
  refine LW.q rfl (Qt.assign rfl) ?_
  refine LW.done ?_
  refine T.block ?_
  refine T.loop (fun mz fz lz => ∃ (f0 : Fr) (k : Nat), (lev ≤ k ∧ k ≤ 41) ∧ mz = k ∧ fz = (upd (upd f0 1 (pV g1)) 4 (.int .i64 k)) ∧ lz = blk g1 [.int .i64 a, .int .i64 b] 57 :: F) ?_ ?_
  · refine ⟨_, _, ⟨_, 41, ⟨hl1, Nat.le_refl _⟩, rfl, (updS rfl (updS rfl rfl)), rfl⟩, Sub.any⟩
  ·
   rintro mz fz lz ⟨f0, k, ⟨hk1, hk2⟩, hmz, rfl, rfl⟩
   subst mz
   try simp only [List.cons_append, List.nil_append]
   refine T.seq ?_
   refine T.seq ?_
   refine T.region ?_
   refine LW.q rfl (Qt.move rfl) ?_
   refine LW.q rfl (Qt.geq rfl rfl) ?_
   refine LW.done ?_
   first | refine T.condT rfl ?_ | refine T.condPT rfl (by omega) ?_ | refine T.condBT rfl (by omega) ?_
   have hpk := Nat.two_pow_pos k
   have hpl : 2 ^ k ≤ 2 ^ 41 := Nat.pow_le_pow_right (by omega) hk2
   have hcl := ceil_le (a := a) hk2 (by omega)
   have hce : (a + 2 ^ k - 1) / 2 ^ k * 2 ^ k = ceilN a k := rfl
   by_cases hkl : k = lev
   ·
    subst hkl
    have hfi := fork_in hab
    rw [hl3] at hce
    refine T.skip ?_
    refine T.seq ?_
    refine T.block ?_
    refine T.seq ?_
    refine T.region ?_
    refine LW.q rfl (Qt.move rfl) ?_
    refine LW.q rfl (Qt.shlI 1 k rfl rfl rfl rfl rfl (by omega) (by rw [Nat.one_mul]; exact wr64 (by omega) (by omega))) ?_
    refine LW.q rfl (Qt.assign rfl) ?_
    refine LW.done ?_
    refine T.seq ?_
    refine T.region ?_
    refine LW.q rfl (Qt.fieldAddr0 (by kernel_rfl) rfl) ?_
    first | refine LW.q rfl (Qt.load (by kernel_rfl) rfl rfl) ?_ | refine LW.q rfl (Qt.load (by kernel_rfl) rfl (map_at _ _ _ (by omega))) ?_ | refine LW.q rfl (Qt.load (by kernel_rfl) rfl (flat_cell0 _ _ _ (by intros; rfl) _ (by omega) (by rfl))) ?_ | refine LW.q rfl (Qt.load (by kernel_rfl) rfl (flat_cell _ _ _ (by intros; rfl) _ _ (by omega) (by rfl))) ?_ | refine LW.q rfl (Qt.load (by kernel_rfl) rfl (bytes_at _ _ (by omega))) ?_
    refine LW.q rfl (Qt.move rfl) ?_
    refine LW.q rfl (Qt.add (r := ((a + 2 ^ k : Nat) : Int)) rfl rfl (by rw [Nat.one_mul, wr64 (by omega) (by omega)]; omega)) ?_
    refine LW.q rfl (Qt.sub (r := ((a + 2 ^ k - 1 : Nat) : Int)) rfl rfl (by rw [wr64 (by omega) (by omega)]; omega)) ?_
    refine LW.q rfl (Qt.move rfl) ?_
    refine LW.q rfl (Qt.quoN (a + 2 ^ k - 1) (2 ^ k) rfl rfl rfl (by rw [Nat.one_mul]) (by omega) (wr64_nat (by have := Nat.div_le_self (a + 2 ^ k - 1) (2 ^ k); omega))) ?_
    refine LW.q rfl (Qt.move rfl) ?_
    refine LW.q rfl (Qt.mulN ((a + 2 ^ k - 1) / 2 ^ k) (2 ^ k) rfl rfl rfl (by rw [Nat.one_mul]) (wr64_nat (by unfold ceilN at hcl; omega))) ?_
    refine LW.q rfl (Qt.assign rfl) ?_
    refine LW.done ?_
    refine T.seq ?_
    refine T.region ?_
    refine LW.q rfl (Qt.move rfl) ?_
    refine LW.q rfl (Qt.fieldAddr (off := 1) (by kernel_rfl) rfl) ?_
    first | refine LW.q rfl (Qt.load (by kernel_rfl) rfl rfl) ?_ | refine LW.q rfl (Qt.load (by kernel_rfl) rfl (map_at _ _ _ (by omega))) ?_ | refine LW.q rfl (Qt.load (by kernel_rfl) rfl (flat_cell0 _ _ _ (by intros; rfl) _ (by omega) (by rfl))) ?_ | refine LW.q rfl (Qt.load (by kernel_rfl) rfl (flat_cell _ _ _ (by intros; rfl) _ _ (by omega) (by rfl))) ?_ | refine LW.q rfl (Qt.load (by kernel_rfl) rfl (bytes_at _ _ (by omega))) ?_
    refine LW.q rfl (Qt.lss rfl rfl) ?_
    refine LW.done ?_
    first | refine T.condT rfl ?_ | refine T.condPT rfl ((by omega)) ?_ | refine T.condBT rfl ((by omega)) ?_
    refine T.seq ?_
    refine T.region ?_
    refine LW.q rfl (Qt.move rfl) ?_
    refine LW.q rfl (Qt.assign rfl) ?_
    refine LW.q rfl (Qt.assign rfl) ?_
    refine LW.done ?_
    refine T.ret ?_
    exact ⟨.inl rfl, _, _, res [_, _] rfl ⟨rvT rfl, rvT rfl, trivial⟩, ⟨by rw [hce]; unfold forkI codeP; rw [if_pos h, if_pos h]; rfl, rfl⟩, Sub.any⟩
   ·
    have := hl2 k (by omega) hk2
    rw [← hce] at this
    refine T.skip ?_
    refine T.seq ?_
    refine T.block ?_
    refine T.seq ?_
    refine T.region ?_
    refine LW.q rfl (Qt.move rfl) ?_
    refine LW.q rfl (Qt.shlI 1 k rfl rfl rfl rfl rfl (by omega) (by rw [Nat.one_mul]; exact wr64 (by omega) (by omega))) ?_
    refine LW.q rfl (Qt.assign rfl) ?_
    refine LW.done ?_
    refine T.seq ?_
    refine T.region ?_
    refine LW.q rfl (Qt.fieldAddr0 (by kernel_rfl) rfl) ?_
    first | refine LW.q rfl (Qt.load (by kernel_rfl) rfl rfl) ?_ | refine LW.q rfl (Qt.load (by kernel_rfl) rfl (map_at _ _ _ (by omega))) ?_ | refine LW.q rfl (Qt.load (by kernel_rfl) rfl (flat_cell0 _ _ _ (by intros; rfl) _ (by omega) (by rfl))) ?_ | refine LW.q rfl (Qt.load (by kernel_rfl) rfl (flat_cell _ _ _ (by intros; rfl) _ _ (by omega) (by rfl))) ?_ | refine LW.q rfl (Qt.load (by kernel_rfl) rfl (bytes_at _ _ (by omega))) ?_
    refine LW.q rfl (Qt.move rfl) ?_
    refine LW.q rfl (Qt.add (r := ((a + 2 ^ k : Nat) : Int)) rfl rfl (by rw [Nat.one_mul, wr64 (by omega) (by omega)]; omega)) ?_
    refine LW.q rfl (Qt.sub (r := ((a + 2 ^ k - 1 : Nat) : Int)) rfl rfl (by rw [wr64 (by omega) (by omega)]; omega)) ?_
    refine LW.q rfl (Qt.move rfl) ?_
    refine LW.q rfl (Qt.quoN (a + 2 ^ k - 1) (2 ^ k) rfl rfl rfl (by rw [Nat.one_mul]) (by omega) (wr64_nat (by have := Nat.div_le_self (a + 2 ^ k - 1) (2 ^ k); omega))) ?_
    refine LW.q rfl (Qt.move rfl) ?_
    refine LW.q rfl (Qt.mulN ((a + 2 ^ k - 1) / 2 ^ k) (2 ^ k) rfl rfl rfl (by rw [Nat.one_mul]) (wr64_nat (by unfold ceilN at hcl; omega))) ?_
    refine LW.q rfl (Qt.assign rfl) ?_
    refine LW.done ?_
    refine T.seq ?_
    refine T.region ?_
    refine LW.q rfl (Qt.move rfl) ?_
    refine LW.q rfl (Qt.fieldAddr (off := 1) (by kernel_rfl) rfl) ?_
    first | refine LW.q rfl (Qt.load (by kernel_rfl) rfl rfl) ?_ | refine LW.q rfl (Qt.load (by kernel_rfl) rfl (map_at _ _ _ (by omega))) ?_ | refine LW.q rfl (Qt.load (by kernel_rfl) rfl (flat_cell0 _ _ _ (by intros; rfl) _ (by omega) (by rfl))) ?_ | refine LW.q rfl (Qt.load (by kernel_rfl) rfl (flat_cell _ _ _ (by intros; rfl) _ _ (by omega) (by rfl))) ?_ | refine LW.q rfl (Qt.load (by kernel_rfl) rfl (bytes_at _ _ (by omega))) ?_
    refine LW.q rfl (Qt.lss rfl rfl) ?_
    refine LW.done ?_
    first | refine T.condF rfl ?_ | refine T.condPF rfl ((by omega)) ?_ | refine T.condBF rfl ((by omega)) ?_
    refine T.skip ?_
    refine T.region ?_
    refine LW.q rfl (Qt.move rfl) ?_
    refine LW.q rfl (Qt.sub (r := ((k - 1 : Nat) : Int)) rfl rfl (by rw [wr64 (by omega) (by omega)]; omega)) ?_
    refine LW.q rfl (Qt.assign rfl) ?_
    refine LW.done ?_
    refine ⟨_, ?_, _, ⟨_, k - 1, ⟨by omega, by omega⟩, rfl, (updS rfl (updS rfl rfl)), rfl⟩, Sub.any⟩
    first | omega | (simp; omega)
 ·
  first | refine LW.q rfl (Qt.notP rfl) ?_ | refine LW.q rfl (Qt.notB rfl) ?_
  refine LW.done ?_
  first | refine T.condT rfl ?_ | refine T.condPT rfl ((h)) ?_ | refine T.condBT rfl ((h)) ?_
  refine T.seq ?_
  refine T.region ?_
  refine LW.q rfl (Qt.assign rfl) ?_
  refine LW.q rfl (Qt.assign rfl) ?_
  refine LW.done ?_
  refine T.ret ?_
  exact ⟨.inl rfl, _, _, res [_, _] rfl ⟨rvT rfl, rvT rfl, trivial⟩, ⟨by unfold forkI codeP; rw [if_neg h, if_neg h]; rfl, rfl⟩, Sub.any⟩
theorem anc_low {n k : Nat} : flatA n (k + 1) = flatA n k ++ ancT n (k + 1) := by
  unfold flatA
  rw [List.range_succ, List.flatMap_append]; simp
theorem flat_len40 (n : Nat) : ∀ k, (flatA n k).length ≤ k
  | 0 => by simp [flatA]
  | k + 1 => by
    rw [anc_low, List.length_append]
    have h1 := flat_len40 n k
    have h2 : (ancT n (k + 1)).length ≤ 1 := by unfold ancT; split <;> simp
    omega
set_option maxHeartbeats 2000000 in
set_option maxRecDepth 100000 in
theorem Ri.ranc (B : Base) (n : Nat) (z : Int) (hz : z = n) (hn : n < 2 ^ 41) : Fn Try.prog B 61 #[.int .i64 z] [] (fun u l => ∃ p c, u = .slice p (ancN n).length c ∧ l = [rZ p (ancN n).length c (zL (ancN n))]) := by
 subst hz
 refine Fn.enter1 34 Try.func61 rfl rfl (Nat.le_of_ble_eq_true rfl) (fun F => ?_)
 try simp only [List.cons_append, List.nil_append]
 refine T.seq ?_
 refine T.region ?_
 refine LW.q rfl (Qt.assign rfl) ?_
 refine LW.done ?_
 refine T.seq ?_
 refine T.region ?_
 refine LW.q rfl (Qt.assign rfl) ?_
 refine LW.done ?_
 refine T.seq ?_
 refine T.seq ?_
 refine T.region ?_
 refine LW.q rfl (Qt.move rfl) ?_
 refine LW.q rfl (Qt.eql rfl rfl) ?_
 refine LW.done ?_
 refine T.conv (l' := rZ none ([] : List Nat).length 0 (zL []) :: F) (fun w ho => ho.row_nil _ _) ?_
 refine T.condP rfl (fun h0 => ?_) (fun h0 => ?_)
 ·
  have e0 : ancN n = [] := by unfold ancN; rw [if_pos (by omega)]
  refine T.seq ?_
  refine T.region ?_
  refine LW.q rfl (Qt.move rfl) ?_
  refine LW.q rfl (Qt.assign rfl) ?_
  refine LW.done ?_
  refine T.ret ?_
  exact ⟨.inl rfl, _, _, res [_] rfl ⟨rvT rfl, trivial⟩, ⟨none, 0, by rw [e0]; rfl, by rw [e0]⟩, Sub.any⟩
 ·
  have h0' : n ≠ 0 := by omega
  refine T.skip ?_
  refine T.seq ?_
  refine T.seq ?_
  refine T.region ?_
  refine LW.q rfl (Qt.assign rfl) ?_
  refine LW.done ?_
  refine T.block ?_
  refine T.loop (fun mz fz lz => ∃ (f0 : Fr) (k : Nat) (o : List Nat) (p : Option Addr) (cp : Nat), (k ≤ 40 ∧ o = flatA n k) ∧ mz = 41 - k ∧ fz = (upd (upd (upd f0 0 (.int .i64 n)) 3 (.slice p o.length cp)) 4 (.int .i64 (k + 1 : Nat))) ∧ lz = rZ p o.length cp (zL o) :: F) ?_ ?_
  · refine ⟨_, _, ⟨_, 0, [], none, 0, ⟨by omega, rfl⟩, rfl, (updS rfl (updS rfl (updS rfl rfl))), rfl⟩, Sub.any⟩
  ·
   rintro mz fz lz ⟨f0, k, o, p, cp, ⟨hk, ho⟩, hmz, rfl, rfl⟩
   subst mz
   try simp only [List.cons_append, List.nil_append]
   refine T.seq ?_
   refine T.seq ?_
   refine T.region ?_
   refine LW.q rfl (Qt.move rfl) ?_
   refine LW.q rfl (Qt.leq rfl rfl) ?_
   refine LW.done ?_
   refine T.condP rfl (fun hlt => ?_) (fun hlt => ?_)
   ·
    have hk40 : k + 1 ≤ 40 := by omega
    have hol := flat_len40 n k
    rw [← ho] at hol
    have hpk := Nat.two_pow_pos (k + 1)
    have hpl : 2 ^ (k + 1) ≤ 2 ^ 40 := Nat.pow_le_pow_right (by omega) hk40
    by_cases hm : n % 2 ^ (k + 1) = 0
    ·
     have hat : ancT n (k + 1) = [] := by unfold ancT; rw [if_pos hm]
     refine T.skip ?_
     refine T.seq ?_
     refine T.block ?_
     refine T.seq ?_
     refine T.region ?_
     refine LW.q rfl (Qt.move rfl) ?_
     refine LW.q rfl (Qt.shlI 1 (k + 1) rfl rfl rfl rfl rfl (by omega) (by rw [Nat.one_mul]; exact wr64 (by omega) (by omega))) ?_
     refine LW.q rfl (Qt.assign rfl) ?_
     refine LW.done ?_
     refine T.seq ?_
     refine T.seq ?_
     refine T.region ?_
     refine LW.q rfl (Qt.move rfl) ?_
     refine LW.q rfl (Qt.move rfl) ?_
     refine LW.q rfl (Qt.remN n (2 ^ (k + 1)) rfl rfl rfl (by rw [Nat.one_mul]) (by omega)) ?_
     refine LW.q rfl (Qt.eql rfl rfl) ?_
     refine LW.done ?_
     first | refine T.condT rfl ?_ | refine T.condPT rfl (by omega) ?_ | refine T.condBT rfl (by omega) ?_
     refine T.exit ?_
     refine T.region ?_
     refine LW.q rfl (Qt.move rfl) ?_
     refine LW.q rfl (Qt.add rfl rfl (wr64 (by omega) (by omega))) ?_
     refine LW.q rfl (Qt.assign rfl) ?_
     refine LW.done ?_
     refine ⟨_, ?_, _, ⟨_, k + 1, o, p, cp, ⟨hk40, by rw [anc_low, hat, List.append_nil, ho]⟩, rfl, (updS rfl (updS rfl (updS rfl rfl))), rfl⟩, Sub.any⟩
     first | omega | (simp; omega)
    ·
     have hat : ancT n (k + 1) = [n / (2 * 2 ^ (k + 1)) * (2 * 2 ^ (k + 1)) + 2 ^ (k + 1)] := by unfold ancT; rw [if_neg hm]
     have hdm := Nat.div_mul_le_self n (2 * 2 ^ (k + 1))
     have hdl := Nat.div_le_self n (2 * 2 ^ (k + 1))
     refine T.skip ?_
     refine T.seq ?_
     refine T.block ?_
     refine T.seq ?_
     refine T.region ?_
     refine LW.q rfl (Qt.move rfl) ?_
     refine LW.q rfl (Qt.shlI 1 (k + 1) rfl rfl rfl rfl rfl (by omega) (by rw [Nat.one_mul]; exact wr64 (by omega) (by omega))) ?_
     refine LW.q rfl (Qt.assign rfl) ?_
     refine LW.done ?_
     refine T.seq ?_
     refine T.seq ?_
     refine T.region ?_
     refine LW.q rfl (Qt.move rfl) ?_
     refine LW.q rfl (Qt.move rfl) ?_
     refine LW.q rfl (Qt.remN n (2 ^ (k + 1)) rfl rfl rfl (by rw [Nat.one_mul]) (by omega)) ?_
     refine LW.q rfl (Qt.eql rfl rfl) ?_
     refine LW.done ?_
     first | refine T.condF rfl ?_ | refine T.condPF rfl (by omega) ?_ | refine T.condBF rfl (by omega) ?_
     refine T.skip ?_
     refine T.region ?_
     refine LW.q rfl (Qt.move rfl) ?_
     refine LW.q rfl (Qt.move rfl) ?_
     refine LW.q rfl (Qt.move rfl) ?_
     refine LW.q rfl (Qt.mulN 2 (2 ^ (k + 1)) rfl rfl rfl (by rw [Nat.one_mul]) (wr64_nat (by omega))) ?_
     refine LW.q rfl (Qt.quoN n (2 * 2 ^ (k + 1)) rfl rfl rfl rfl (by omega) (wr64_nat (by omega))) ?_
     refine LW.q rfl (Qt.move rfl) ?_
     refine LW.q rfl (Qt.mulN 2 (2 ^ (k + 1)) rfl rfl rfl (by rw [Nat.one_mul]) (wr64_nat (by omega))) ?_
     refine LW.q rfl (Qt.mulN (n / (2 * 2 ^ (k + 1))) (2 * 2 ^ (k + 1)) rfl rfl rfl rfl (wr64_nat (by omega))) ?_
     refine LW.q rfl (Qt.move rfl) ?_
     refine LW.q rfl (Qt.add (r := ((n / (2 * 2 ^ (k + 1)) * (2 * 2 ^ (k + 1)) + 2 ^ (k + 1) : Nat) : Int)) rfl rfl (by rw [Nat.one_mul, ← Int.natCast_add]; exact wr64_nat (by omega))) ?_
     refine LW.e rfl (Ef.one [_] (e := 2) (sz := 1) (by kernel_rfl) ⟨.int .i64 0, by kernel_rfl, rfl⟩ rfl rfl rfl (by omega) (by omega) ?_)
     intro g29
     refine LW.e rfl (Ef.append Ri.elemZ rfl rfl (SrcOf.blk (by kernel_rfl) rfl (by simp [Value.oneCell'])) (by unfold maxLen; omega) (by omega) ?_)
     rintro p2 c2 hp2
     try simp only [List.cons_append, List.nil_append]
     rw [show o.length + 1 = (o ++ [n / (2 * 2 ^ (k + 1)) * (2 * 2 ^ (k + 1)) + 2 ^ (k + 1)]).length by simp, show (zL o).map iV ++ [Value.int .i64 ((n / (2 * 2 ^ (k + 1)) * (2 * 2 ^ (k + 1)) + 2 ^ (k + 1) : Nat) : Int)] = (zL (o ++ [n / (2 * 2 ^ (k + 1)) * (2 * 2 ^ (k + 1)) + 2 ^ (k + 1)])).map iV by simp]
     refine LW.q rfl (Qt.assign rfl) ?_
     refine LW.done ?_
     refine T.region ?_
     refine LW.q rfl (Qt.move rfl) ?_
     refine LW.q rfl (Qt.add rfl rfl (wr64 (by omega) (by omega))) ?_
     refine LW.q rfl (Qt.assign rfl) ?_
     refine LW.done ?_
     refine ⟨_, ?_, _, ⟨_, k + 1, o ++ [n / (2 * 2 ^ (k + 1)) * (2 * 2 ^ (k + 1)) + 2 ^ (k + 1)], p2, c2, ⟨hk40, by rw [anc_low, hat, ho]⟩, rfl, (updS rfl (updS rfl (updS rfl rfl))), rfl⟩, Sub.any⟩
     first | omega | (simp; omega)
   ·
    obtain rfl : k = 40 := by omega
    have hol := flat_len40 n 40
    rw [← ho] at hol
    have hfin : ancN n = o ++ [0] := by unfold ancN; rw [if_neg h0', ho]; rfl
    refine T.exit ?_
    refine T.seq ?_
    refine T.region ?_
    refine LW.q rfl (Qt.move rfl) ?_
    refine LW.e rfl (Ef.one [_] (e := 2) (sz := 1) (by kernel_rfl) ⟨.int .i64 0, by kernel_rfl, rfl⟩ rfl rfl rfl (by omega) (by omega) ?_)
    intro g32
    refine LW.e rfl (Ef.append Ri.elemZ rfl rfl (SrcOf.blk (by kernel_rfl) rfl (by simp [Value.oneCell'])) (by unfold maxLen; omega) (by omega) ?_)
    rintro p2 c2 hp2
    try simp only [List.cons_append, List.nil_append]
    rw [show o.length + 1 = (ancN n).length by rw [hfin]; simp, show (zL o).map iV ++ [Value.int .i64 0] = (zL (ancN n)).map iV by rw [hfin]; simp]
    refine LW.q rfl (Qt.assign rfl) ?_
    refine LW.done ?_
    refine T.ret ?_
    exact ⟨.inl rfl, _, _, res [_] rfl ⟨rvT rfl, trivial⟩, ⟨p2, c2, rfl, rfl⟩, Sub.any⟩
theorem with_split {l : List Int} {x : Int} {i : Nat} (h : i < l.length) : withZ (l.drop i) x = if x < l[i] then x :: l[i] :: l.drop (i + 1) else l[i] :: withZ (l.drop (i + 1)) x := by
  rw [← List.getElem_cons_drop h]; rfl
set_option maxHeartbeats 2000000 in
set_option maxRecDepth 100000 in
theorem Ri.withF (B : Base) (S : List Assn) (v : Value) (xs : List Int) (x : Int) (hv : RdV B S v (xs.map iV)) (hn : xs.length < 2 ^ 40) : Fn Try.prog B 62 #[v, .int .i64 x] S (fun u l => ∃ p c, u = .slice p (withZ xs x).length c ∧ l = rZ p (withZ xs x).length c (withZ xs x) :: S) := by
 obtain ⟨a1, c1, rfl⟩ := hv.form (m := xs.length) (by simp)
 refine Fn.enter2 42 Try.func62 rfl rfl (Nat.le_of_ble_eq_true rfl) (fun F => ?_)
 try simp only [List.cons_append, List.nil_append]
 refine T.seq ?_
 refine T.region ?_
 refine LW.q rfl (Qt.assign rfl) ?_
 refine LW.done ?_
 refine T.seq ?_
 refine T.region ?_
 refine LW.q rfl (Qt.assign rfl) ?_
 refine LW.done ?_
 refine T.seq ?_
 refine T.region ?_
 refine LW.q rfl (Qt.assign rfl) ?_
 refine LW.done ?_
 refine T.seq ?_
 refine T.seq ?_
 refine T.region ?_
 refine LW.q rfl (Qt.assign rfl) ?_
 refine LW.done ?_
 refine T.block ?_
 refine T.conv (l' := rZ none ([] : List Int).length 0 [] :: (S ++ F)) (fun w ho => ho.row_nil _ _) ?_
 refine T.loop (fun mz fz lz => ∃ (f0 : Fr) (i : Nat) (dn : Bool) (o : List Int) (p : Option Addr) (cp : Nat), (i ≤ xs.length ∧ o ++ (if dn then xs.drop i else withZ (xs.drop i) x) = withZ xs x) ∧ mz = xs.length - i ∧ fz = (upd (upd (upd (upd (upd f0 0 (.slice a1 xs.length c1)) 1 (.int .i64 x)) 5 (.slice p o.length cp)) 6 (.bool dn)) 7 (.int .i64 i)) ∧ lz = rZ p o.length cp o :: (S ++ F)) ?_ ?_
 · refine ⟨_, _, ⟨_, 0, false, [], none, 0, ⟨Nat.zero_le _, rfl⟩, rfl, (updS rfl (updS rfl (updS rfl (updS rfl (updS rfl rfl))))), rfl⟩, Sub.any⟩
 ·
  rintro mz fz lz ⟨f0, i, dn, o, p, cp, ⟨hi, ho⟩, hmz, rfl, rfl⟩
  subst mz
  try simp only [List.cons_append, List.nil_append]
  have hol : o.length ≤ xs.length + 1 := by have h1 := congrArg List.length ho; rw [List.length_append, len_with] at h1; omega
  refine T.seq ?_
  refine T.seq ?_
  refine T.region ?_
  refine LW.q rfl (Qt.move rfl) ?_
  refine LW.q rfl (Qt.move rfl) ?_
  refine LW.q rfl (Qt.len (e := 2) (sz := 1) (by kernel_rfl) rfl) ?_
  refine LW.q rfl (Qt.lss rfl rfl) ?_
  refine LW.done ?_
  refine T.condP rfl (fun hlt => ?_) (fun hlt => ?_)
  ·
   have hx : i < xs.length := by omega
   obtain ⟨b1, o1, rfl, hc1⟩ := hv.at (m := xs.length) (by omega)
   refine T.skip ?_
   refine T.seq ?_
   refine T.block ?_
   refine T.cut (fun fz lz => ∃ (f0 : Fr) (dn : Bool) (o : List Int) (p : Option Addr) (cp : Nat), ((o ++ [xs[i]]) ++ (if dn then xs.drop (i + 1) else withZ (xs.drop (i + 1)) x) = withZ xs x) ∧ fz = (upd (upd (upd (upd (upd f0 0 (.slice (some ⟨b1, o1, none⟩) xs.length c1)) 1 (.int .i64 x)) 5 (.slice p o.length cp)) 6 (.bool dn)) 7 (.int .i64 i)) ∧ lz = rZ p o.length cp o :: (S ++ F)) ?_ ?_
   ·
    by_cases hdn : dn = true
    ·
     subst hdn
     refine T.seq ?_
     refine T.region ?_
     refine LW.q rfl (Qt.move rfl) ?_
     first | refine LW.q rfl (Qt.notP rfl) ?_ | refine LW.q rfl (Qt.notB rfl) ?_
     refine LW.q rfl (Qt.move rfl) ?_
     first | refine LW.gF (t := 16) rfl rfl ?_ | refine LW.gF (t := 16) rfl (decide_eq_false (by omega)) ?_ | refine LW.gF (t := 16) rfl (by omega) ?_
     refine LW.s rfl ?_
     refine LW.s rfl ?_
     refine LW.s rfl ?_
     refine LW.s rfl ?_
     refine LW.s rfl ?_
     refine LW.s rfl ?_
     refine LW.q rfl (Qt.pick rfl rfl) ?_
     refine LW.done ?_
     first | refine T.condF rfl ?_ | refine T.condPF rfl (by omega) ?_ | refine T.condBF rfl (by omega) ?_
     refine T.skip ?_
     exact ⟨_, ⟨_, true, o, p, cp, by rw [← ho, if_pos rfl, if_pos rfl, ← List.getElem_cons_drop hx, List.append_assoc]; rfl, (updS rfl (updS rfl (updS rfl (updS rfl (updS rfl rfl))))), rfl⟩, Sub.any⟩
    ·
     obtain rfl : dn = false := by simpa using hdn
     rw [if_neg (by simp), with_split hx] at ho
     refine T.seq ?_
     refine T.region ?_
     refine LW.q rfl (Qt.move rfl) ?_
     first | refine LW.q rfl (Qt.notP rfl) ?_ | refine LW.q rfl (Qt.notB rfl) ?_
     refine LW.q rfl (Qt.move rfl) ?_
     first | refine LW.gT (t := 16) rfl rfl ?_ | refine LW.gT (t := 16) rfl (decide_eq_true (by omega)) ?_ | refine LW.gT (t := 16) rfl (by omega) ?_
     refine LW.q rfl (Qt.move rfl) ?_
     refine LW.q rfl (Qt.move rfl) ?_
     refine LW.q rfl (Qt.move rfl) ?_
     refine LW.q rfl (Qt.index i (e := 2) (sz := 1) (by kernel_rfl) rfl rfl rfl hx) ?_
     refine LW.q rfl (Qt.loadW (v := iV xs[i]) (by kernel_rfl) rfl (fun w ho => by have := hc1 i (by simpa using hx) w (ho.map Sub.any); simpa using this)) ?_
     refine LW.q rfl (Qt.lss rfl rfl) ?_
     refine LW.q rfl (Qt.pick rfl rfl) ?_
     refine LW.done ?_
     refine T.condP rfl (fun hxl => ?_) (fun hxl => ?_)
     ·
      rw [if_pos hxl] at ho
      refine T.seq ?_
      refine T.region ?_
      refine LW.q rfl (Qt.move rfl) ?_
      refine LW.q rfl (Qt.move rfl) ?_
      refine LW.e rfl (Ef.one [_] (e := 2) (sz := 1) (by kernel_rfl) ⟨.int .i64 0, by kernel_rfl, rfl⟩ rfl rfl rfl (by omega) (by omega) ?_)
      intro g26
      refine LW.e rfl (Ef.append Ri.elemZ rfl rfl (SrcOf.blk (by kernel_rfl) rfl (by simp [Value.oneCell'])) (by unfold maxLen; omega) (by omega) ?_)
      rintro p2 c2 hp2
      try simp only [List.cons_append, List.nil_append]
      rw [show o.length + 1 = (o ++ [x]).length by simp, show o.map iV ++ [Value.int .i64 x] = (o ++ [x]).map iV by simp]
      refine LW.q rfl (Qt.assign rfl) ?_
      refine LW.done ?_
      refine T.region ?_
      refine LW.q rfl (Qt.assign rfl) ?_
      refine LW.done ?_
      exact ⟨_, ⟨_, true, o ++ [x], p2, c2, by rw [← ho, if_pos rfl]; simp, (updS rfl (updS rfl (updS rfl (updS rfl (updS rfl rfl))))), rfl⟩, Sub.any⟩
     ·
      rw [if_neg hxl] at ho
      refine T.skip ?_
      exact ⟨_, ⟨_, false, o, p, cp, by rw [← ho, if_neg (by simp)]; simp, (updS rfl (updS rfl (updS rfl (updS rfl (updS rfl rfl))))), rfl⟩, Sub.any⟩
   rintro fz lz ⟨f0, dn, o, p, cp, ho2, rfl, rfl⟩
   try simp only [List.cons_append, List.nil_append]
   have hol2 : o.length + 1 ≤ xs.length + 1 := by have h1 := congrArg List.length ho2; rw [List.length_append, List.length_append, len_with, List.length_singleton] at h1; omega
   refine T.region ?_
   refine LW.q rfl (Qt.move rfl) ?_
   refine LW.q rfl (Qt.move rfl) ?_
   refine LW.q rfl (Qt.move rfl) ?_
   refine LW.q rfl (Qt.index i (e := 2) (sz := 1) (by kernel_rfl) rfl rfl rfl hx) ?_
   refine LW.q rfl (Qt.loadW (v := iV xs[i]) (by kernel_rfl) rfl (fun w ho => by have := hc1 i (by simpa using hx) w (ho.map Sub.any); simpa using this)) ?_
   refine LW.e rfl (Ef.one [_] (e := 2) (sz := 1) (by kernel_rfl) ⟨.int .i64 0, by kernel_rfl, rfl⟩ rfl rfl rfl (by omega) (by omega) ?_)
   intro g33
   refine LW.e rfl (Ef.append Ri.elemZ rfl rfl (SrcOf.blk (by kernel_rfl) rfl (by simp [Value.oneCell'])) (by unfold maxLen; omega) (by omega) ?_)
   rintro p3 c3 hp3
   try simp only [List.cons_append, List.nil_append]
   rw [show o.length + 1 = (o ++ [xs[i]]).length by simp, show o.map iV ++ [iV xs[i]] = (o ++ [xs[i]]).map iV by simp]
   refine LW.q rfl (Qt.assign rfl) ?_
   refine LW.done ?_
   refine T.region ?_
   refine LW.q rfl (Qt.move rfl) ?_
   refine LW.q rfl (Qt.add rfl rfl (wr64 (by omega) (by omega))) ?_
   refine LW.q rfl (Qt.assign rfl) ?_
   refine LW.done ?_
   refine ⟨_, ?_, _, ⟨_, i + 1, dn, o ++ [xs[i]], p3, c3, ⟨by omega, ho2⟩, rfl, (updS rfl (updS rfl (updS rfl (updS rfl (updS rfl rfl))))), rfl⟩, Sub.any⟩
   first | omega | (simp; omega)
  ·
   obtain rfl : i = xs.length := by omega
   rw [List.drop_length] at ho
   by_cases hdn : dn = true
   ·
    subst hdn
    rw [if_pos rfl, List.append_nil] at ho
    refine T.exit ?_
    refine T.seq ?_
    refine T.seq ?_
    refine T.region ?_
    refine LW.q rfl (Qt.move rfl) ?_
    first | refine LW.q rfl (Qt.notP rfl) ?_ | refine LW.q rfl (Qt.notB rfl) ?_
    refine LW.done ?_
    first | refine T.condF rfl ?_ | refine T.condPF rfl (by omega) ?_ | refine T.condBF rfl (by omega) ?_
    refine T.skip ?_
    refine T.seq ?_
    refine T.region ?_
    refine LW.q rfl (Qt.move rfl) ?_
    refine LW.q rfl (Qt.assign rfl) ?_
    refine LW.done ?_
    refine T.ret ?_
    exact ⟨.inl rfl, _, _, res [_] rfl ⟨rvT rfl, trivial⟩, ⟨p, cp, by rw [← ho]; rfl, by rw [← ho]⟩, Sub.any⟩
   ·
    obtain rfl : dn = false := by simpa using hdn
    rw [if_neg (by simp)] at ho
    refine T.exit ?_
    refine T.seq ?_
    refine T.seq ?_
    refine T.region ?_
    refine LW.q rfl (Qt.move rfl) ?_
    first | refine LW.q rfl (Qt.notP rfl) ?_ | refine LW.q rfl (Qt.notB rfl) ?_
    refine LW.done ?_
    first | refine T.condT rfl ?_ | refine T.condPT rfl (by omega) ?_ | refine T.condBT rfl (by omega) ?_
    refine T.region ?_
    refine LW.q rfl (Qt.move rfl) ?_
    refine LW.q rfl (Qt.move rfl) ?_
    refine LW.e rfl (Ef.one [_] (e := 2) (sz := 1) (by kernel_rfl) ⟨.int .i64 0, by kernel_rfl, rfl⟩ rfl rfl rfl (by omega) (by omega) ?_)
    intro g39
    refine LW.e rfl (Ef.append Ri.elemZ rfl rfl (SrcOf.blk (by kernel_rfl) rfl (by simp [Value.oneCell'])) (by unfold maxLen; omega) (by omega) ?_)
    rintro p2 c2 hp2
    try simp only [List.cons_append, List.nil_append]
    rw [show o.length + 1 = (o ++ [x]).length by simp, show o.map iV ++ [Value.int .i64 x] = (o ++ [x]).map iV by simp, show o ++ [x] = withZ xs x from ho]
    refine LW.q rfl (Qt.assign rfl) ?_
    refine LW.done ?_
    refine T.seq ?_
    refine T.region ?_
    refine LW.q rfl (Qt.move rfl) ?_
    refine LW.q rfl (Qt.assign rfl) ?_
    refine LW.done ?_
    refine T.ret ?_
    exact ⟨.inl rfl, _, _, res [_] rfl ⟨rvT rfl, trivial⟩, ⟨p2, c2, rfl, rfl⟩, Sub.any⟩
end Go.Proofs.Ytefognjcognknaa

/- The document's Nodes; the law RitreeForks. Conditions: sizes. -/
set_option linter.unusedSimpArgs false
set_option linter.unusedVariables false
namespace Go.Proofs.Ytefognjcognknaa
open Go.RowKit
theorem RdV.rz {B : Base} {S : List Assn} {p : Option Addr} {m c : Nat} {l : List Int} (hm : l.length = m) (hp : 0 < m → ∃ g, p = some ⟨g, 0, none⟩) (hs : ∀ w, Own B w S → Own B w [rZ p m c l]) : RdV B S (.slice p m c) (l.map iV) := (RdV.ofRow (e := 2) (fun _ ho => ho.row_owns) (by simp [hm]) hp).mono hs
set_option maxHeartbeats 4000000 in
set_option maxRecDepth 100000 in
theorem Ri.rnodes (B : Base) (f t : Int) : Fn Try.prog B 30 #[pdV f t] [] (fun u l => ∃ p1 c1 p2 c2, u = .tuple #[.slice p1 (leftI f t).length c1, .slice p2 (rightI f t).length c2, .int .i64 (codeP f t)] ∧ l = [rZ p1 (leftI f t).length c1 (leftI f t), rZ p2 (rightI f t).length c2 (rightI f t)]) := by
 refine Fn.enter1 49 Try.func30 rfl rfl (Nat.le_of_ble_eq_true rfl) (fun F => ?_)
 try simp only [List.cons_append, List.nil_append]
 refine T.seq ?_
 refine T.region ?_
 refine LW.e rfl (Ef.box [_, _] rfl rfl ?_)
 intro g1
 refine LW.q rfl (Qt.assign rfl) ?_
 refine LW.q rfl (Qt.assign rfl) ?_
 refine LW.q rfl (Qt.assign rfl) ?_
 refine LW.done ?_
 refine T.seq ?_
 refine T.seq ?_
 refine T.region ?_
 first | refine LW.q rfl (Qt.loadAgg [_, _] (by kernel_rfl) rfl ⟨rfl, rfl, trivial⟩) ?_ | refine LW.q rfl (Qt.loadAgg [_, _] (by kernel_rfl) rfl (by exact rdl_flat _ _ _ (by intros; rfl) _ (by omega))) ?_
 refine LW.e rfl (Ef.call (Ri.right B f t) Try.func57 rfl rfl rfl ?_)
 rintro _ _ ⟨rfl, rfl⟩
 try simp only [List.cons_append, List.nil_append]
 by_cases h : okP f t
 ·
  first | refine LW.q rfl (Qt.notP rfl) ?_ | refine LW.q rfl (Qt.notB rfl) ?_
  refine LW.done ?_
  first | refine T.condF rfl ?_ | refine T.condPF rfl ((fun k => k h)) ?_ | refine T.condBF rfl ((fun k => k h)) ?_
  obtain ⟨a, b, rfl, rfl, hab, hb⟩ := okP_nat h
  have e1 : leftI (a : Int) b = leftZ a := by unfold leftI; rw [if_pos h, Int.toNat_natCast]
  have e2 : rightI (a : Int) b = rightZ b := by unfold rightI; rw [if_pos h, Int.toNat_natCast]
  have e3 : codeP (a : Int) b = 0 := by unfold codeP; rw [if_pos h]
  refine T.conv (l' := rZ none ([] : List Int).length 0 [] :: _) (fun w ho => ho.row_nil 2 1) ?_
  refine T.conv (l' := rZ none ([] : List Int).length 0 [] :: _) (fun w ho => ho.row_nil 2 1) ?_
  refine T.skip ?_
  refine T.seq ?_
  refine T.region ?_
  refine LW.q rfl (Qt.assign rfl) ?_
  refine LW.q rfl (Qt.assign rfl) ?_
  refine LW.done ?_
  refine T.seq ?_
  refine T.seq ?_
  refine T.region ?_
  refine LW.q rfl (Qt.fieldAddr0 (by kernel_rfl) rfl) ?_
  first | refine LW.q rfl (Qt.load (by kernel_rfl) rfl rfl) ?_ | refine LW.q rfl (Qt.load (by kernel_rfl) rfl (map_at _ _ _ (by omega))) ?_ | refine LW.q rfl (Qt.load (by kernel_rfl) rfl (flat_cell0 _ _ _ (by intros; rfl) _ (by omega) (by rfl))) ?_ | refine LW.q rfl (Qt.load (by kernel_rfl) rfl (flat_cell _ _ _ (by intros; rfl) _ _ (by omega) (by rfl))) ?_ | refine LW.q rfl (Qt.load (by kernel_rfl) rfl (bytes_at _ _ (by omega))) ?_
  refine LW.e rfl (Ef.call (Ri.ranc B a a rfl (by omega)) Try.func61 rfl rfl rfl ?_)
  rintro _ _ ⟨p5, c5, rfl, rfl⟩
  try simp only [List.cons_append, List.nil_append]
  have hEl := anc_len a
  obtain ⟨E, hE⟩ : ∃ E, E = ancN a := ⟨_, rfl⟩
  rw [← hE] at hEl ⊢
  refine LW.q rfl (Qt.len (e := 2) (sz := 1) (by kernel_rfl) rfl) ?_
  refine LW.q rfl (Qt.move rfl) ?_
  refine LW.done ?_
  refine T.block ?_
  refine T.loop (fun mz fz lz => ∃ (f0 : Fr) (i : Nat) (A : List Int) (p1 : Option Addr) (c1 : Nat), (i ≤ E.length ∧ A.length ≤ i ∧ A = allZ (rawL (E.take i) a)) ∧ mz = E.length - i ∧ fz = (upd (upd (upd (upd (upd (upd f0 1 (pV g1)) 5 (.slice p1 A.length c1)) 6 (.slice none 0 0)) 16 (.slice p5 E.length c5)) 17 (.int .i64 E.length)) 18 (.int .i64 i)) ∧ lz = rZ p5 E.length c5 (zL E) :: rZ p1 A.length c1 A :: rZ none ([] : List Int).length 0 [] :: blk g1 [.int .i64 a, .int .i64 b] 57 :: F) ?_ ?_
  · refine ⟨_, _, ⟨_, 0, [], none, 0, ⟨Nat.zero_le _, Nat.le_refl _, rfl⟩, rfl, (updS rfl (updS rfl (updS rfl (updS rfl (updS rfl (updS rfl rfl)))))), rfl⟩, Sub.any⟩
  ·
   rintro mz fz lz ⟨f0, i, A, p1, c1, ⟨hi, hAl, hA⟩, hmz, rfl, rfl⟩
   subst mz
   try simp only [List.cons_append, List.nil_append]
   refine T.seq ?_
   refine T.region ?_
   refine LW.q rfl (Qt.lss rfl rfl) ?_
   refine LW.done ?_
   refine T.seq ?_
   refine T.condP rfl (fun hlt => ?_) (fun hlt => ?_)
   ·
    have hix : i < E.length := by omega
    have hsn : E.take (i + 1) = E.take i ++ [E[i]] := List.take_succ_eq_append_getElem hix
    refine T.own fun w1 ho1 => ?_
    obtain ⟨g6, rfl⟩ := (ho1.slice_at (p := p5) (m := E.length) (c := c5) (k := E.length)).2.1 (by omega)
    have hp1 := (ho1.slice_at (p := p1) (m := A.length) (c := c1) (k := A.length)).2.1
    clear ho1
    by_cases hxl : E[i] < a
    ·
     refine T.skip ?_
     refine T.seq ?_
     refine T.block ?_
     refine T.seq ?_
     refine T.region ?_
     refine LW.q rfl (Qt.index i (e := 2) (sz := 1) (by kernel_rfl) rfl rfl rfl hix) ?_
     refine LW.q rfl (Qt.load (v := .int .i64 (E[i] : Nat)) (by kernel_rfl) rfl (by simp [hix])) ?_
     refine LW.q rfl (Qt.assign rfl) ?_
     refine LW.done ?_
     refine T.seq ?_
     refine T.region ?_
     refine LW.q rfl (Qt.move rfl) ?_
     refine LW.q rfl (Qt.fieldAddr0 (by kernel_rfl) rfl) ?_
     first | refine LW.q rfl (Qt.load (by kernel_rfl) rfl rfl) ?_ | refine LW.q rfl (Qt.load (by kernel_rfl) rfl (map_at _ _ _ (by omega))) ?_ | refine LW.q rfl (Qt.load (by kernel_rfl) rfl (flat_cell0 _ _ _ (by intros; rfl) _ (by omega) (by rfl))) ?_ | refine LW.q rfl (Qt.load (by kernel_rfl) rfl (flat_cell _ _ _ (by intros; rfl) _ _ (by omega) (by rfl))) ?_ | refine LW.q rfl (Qt.load (by kernel_rfl) rfl (bytes_at _ _ (by omega))) ?_
     refine LW.q rfl (Qt.lss rfl rfl) ?_
     refine LW.done ?_
     first | refine T.condT rfl ?_ | refine T.condPT rfl (by omega) ?_ | refine T.condBT rfl (by omega) ?_
     refine T.region ?_
     refine LW.q rfl (Qt.move rfl) ?_
     refine LW.q rfl (Qt.move rfl) ?_
     refine LW.e rfl (Ef.call (Ri.withF B [rZ p1 A.length c1 A] (.slice p1 A.length c1) A (E[i] : Nat) (RdV.rz rfl hp1 (fun w ho => ho)) (by omega)) Try.func62 rfl rfl rfl ?_)
     rintro _ _ ⟨p7, c7, rfl, rfl⟩
     try simp only [List.cons_append, List.nil_append]
     refine LW.q rfl (Qt.assign rfl) ?_
     refine LW.done ?_
     refine T.region ?_
     refine LW.q rfl (Qt.add rfl rfl (wr64 (by omega) (by omega))) ?_
     refine LW.q rfl (Qt.move rfl) ?_
     refine LW.done ?_
     refine ⟨_, ?_, _, ⟨_, i + 1, withZ A ((E[i] : Nat) : Int), p7, c7, ⟨by omega, by rw [len_with]; omega, by rw [hsn, rawL_snoc, if_pos hxl, all_snoc, ← hA]⟩, rfl, (updS rfl (updS rfl (updS rfl (updS rfl (updS rfl (updS rfl rfl)))))), rfl⟩, Sub.any⟩
     first | omega | (simp; omega)
    ·
     refine T.skip ?_
     refine T.seq ?_
     refine T.block ?_
     refine T.seq ?_
     refine T.region ?_
     refine LW.q rfl (Qt.index i (e := 2) (sz := 1) (by kernel_rfl) rfl rfl rfl hix) ?_
     refine LW.q rfl (Qt.load (v := .int .i64 (E[i] : Nat)) (by kernel_rfl) rfl (by simp [hix])) ?_
     refine LW.q rfl (Qt.assign rfl) ?_
     refine LW.done ?_
     refine T.seq ?_
     refine T.region ?_
     refine LW.q rfl (Qt.move rfl) ?_
     refine LW.q rfl (Qt.fieldAddr0 (by kernel_rfl) rfl) ?_
     first | refine LW.q rfl (Qt.load (by kernel_rfl) rfl rfl) ?_ | refine LW.q rfl (Qt.load (by kernel_rfl) rfl (map_at _ _ _ (by omega))) ?_ | refine LW.q rfl (Qt.load (by kernel_rfl) rfl (flat_cell0 _ _ _ (by intros; rfl) _ (by omega) (by rfl))) ?_ | refine LW.q rfl (Qt.load (by kernel_rfl) rfl (flat_cell _ _ _ (by intros; rfl) _ _ (by omega) (by rfl))) ?_ | refine LW.q rfl (Qt.load (by kernel_rfl) rfl (bytes_at _ _ (by omega))) ?_
     refine LW.q rfl (Qt.lss rfl rfl) ?_
     refine LW.done ?_
     first | refine T.condF rfl ?_ | refine T.condPF rfl (by omega) ?_ | refine T.condBF rfl (by omega) ?_
     refine T.skip ?_
     refine T.region ?_
     refine LW.q rfl (Qt.add rfl rfl (wr64 (by omega) (by omega))) ?_
     refine LW.q rfl (Qt.move rfl) ?_
     refine LW.done ?_
     refine ⟨_, ?_, _, ⟨_, i + 1, A, p1, c1, ⟨by omega, by omega, by rw [hsn, rawL_snoc, if_neg hxl, ← hA]⟩, rfl, (updS rfl (updS rfl (updS rfl (updS rfl (updS rfl (updS rfl rfl)))))), rfl⟩, Sub.any⟩
     first | omega | (simp; omega)
   ·
    rw [List.take_of_length_le (by omega), hE] at hA
    have hA2 : A = leftZ a := hA
    subst hA2
    refine T.exit ?_
    refine T.seq ?_
    refine T.seq ?_
    refine T.region ?_
    refine LW.q rfl (Qt.fieldAddr (off := 1) (by kernel_rfl) rfl) ?_
    first | refine LW.q rfl (Qt.load (by kernel_rfl) rfl rfl) ?_ | refine LW.q rfl (Qt.load (by kernel_rfl) rfl (map_at _ _ _ (by omega))) ?_ | refine LW.q rfl (Qt.load (by kernel_rfl) rfl (flat_cell0 _ _ _ (by intros; rfl) _ (by omega) (by rfl))) ?_ | refine LW.q rfl (Qt.load (by kernel_rfl) rfl (flat_cell _ _ _ (by intros; rfl) _ _ (by omega) (by rfl))) ?_ | refine LW.q rfl (Qt.load (by kernel_rfl) rfl (bytes_at _ _ (by omega))) ?_
    refine LW.q rfl (Qt.sub (r := ((b - 1 : Nat) : Int)) rfl rfl (by rw [wr64 (by omega) (by omega)]; omega)) ?_
    refine LW.e rfl (Ef.call (Ri.ranc B (b - 1) (b - 1 : Nat) rfl (by omega)) Try.func61 rfl rfl rfl ?_)
    rintro _ _ ⟨p8, c8, rfl, rfl⟩
    try simp only [List.cons_append, List.nil_append]
    have hGl := anc_len (b - 1)
    obtain ⟨G, hG⟩ : ∃ G, G = ancN (b - 1) := ⟨_, rfl⟩
    rw [← hG] at hGl ⊢
    refine LW.q rfl (Qt.len (e := 2) (sz := 1) (by kernel_rfl) rfl) ?_
    refine LW.q rfl (Qt.move rfl) ?_
    refine LW.done ?_
    refine T.block ?_
    refine T.loop (fun mz fz lz => ∃ (f0 : Fr) (i : Nat) (A : List Int) (p2 : Option Addr) (c2 : Nat), (i ≤ G.length ∧ A.length ≤ i ∧ A = allZ (rawR (G.take i) b)) ∧ mz = G.length - i ∧ fz = (upd (upd (upd (upd (upd (upd f0 1 (pV g1)) 5 (.slice p1 (leftZ a).length c1)) 6 (.slice p2 A.length c2)) 33 (.slice p8 G.length c8)) 34 (.int .i64 G.length)) 35 (.int .i64 i)) ∧ lz = rZ p8 G.length c8 (zL G) :: rZ p2 A.length c2 A :: rZ p1 (leftZ a).length c1 (leftZ a) :: blk g1 [.int .i64 a, .int .i64 b] 57 :: F) ?_ ?_
    · refine ⟨_, _, ⟨_, 0, [], none, 0, ⟨Nat.zero_le _, Nat.le_refl _, rfl⟩, rfl, (updS rfl (updS rfl (updS rfl (updS rfl (updS rfl (updS rfl rfl)))))), rfl⟩, Sub.any⟩
    ·
     rintro mz fz lz ⟨f0, i, A, p2, c2, ⟨hi, hAl, hA⟩, hmz, rfl, rfl⟩
     subst mz
     try simp only [List.cons_append, List.nil_append]
     refine T.seq ?_
     refine T.region ?_
     refine LW.q rfl (Qt.lss rfl rfl) ?_
     refine LW.done ?_
     refine T.seq ?_
     refine T.condP rfl (fun hlt2 => ?_) (fun hlt2 => ?_)
     ·
      have hix : i < G.length := by omega
      have hsn : G.take (i + 1) = G.take i ++ [G[i]] := List.take_succ_eq_append_getElem hix
      refine T.own fun w1 ho1 => ?_
      obtain ⟨g6, rfl⟩ := (ho1.slice_at (p := p8) (m := G.length) (c := c8) (k := G.length)).2.1 (by omega)
      have hp2 := (ho1.slice_at (p := p2) (m := A.length) (c := c2) (k := A.length)).2.1
      clear ho1
      by_cases hxl : b ≤ G[i]
      ·
       refine T.skip ?_
       refine T.seq ?_
       refine T.block ?_
       refine T.seq ?_
       refine T.region ?_
       refine LW.q rfl (Qt.index i (e := 2) (sz := 1) (by kernel_rfl) rfl rfl rfl hix) ?_
       refine LW.q rfl (Qt.load (v := .int .i64 (G[i] : Nat)) (by kernel_rfl) rfl (by simp [hix])) ?_
       refine LW.q rfl (Qt.assign rfl) ?_
       refine LW.done ?_
       refine T.seq ?_
       refine T.region ?_
       refine LW.q rfl (Qt.move rfl) ?_
       refine LW.q rfl (Qt.fieldAddr (off := 1) (by kernel_rfl) rfl) ?_
       first | refine LW.q rfl (Qt.load (by kernel_rfl) rfl rfl) ?_ | refine LW.q rfl (Qt.load (by kernel_rfl) rfl (map_at _ _ _ (by omega))) ?_ | refine LW.q rfl (Qt.load (by kernel_rfl) rfl (flat_cell0 _ _ _ (by intros; rfl) _ (by omega) (by rfl))) ?_ | refine LW.q rfl (Qt.load (by kernel_rfl) rfl (flat_cell _ _ _ (by intros; rfl) _ _ (by omega) (by rfl))) ?_ | refine LW.q rfl (Qt.load (by kernel_rfl) rfl (bytes_at _ _ (by omega))) ?_
       refine LW.q rfl (Qt.geq rfl rfl) ?_
       refine LW.done ?_
       first | refine T.condT rfl ?_ | refine T.condPT rfl (by omega) ?_ | refine T.condBT rfl (by omega) ?_
       refine T.region ?_
       refine LW.q rfl (Qt.move rfl) ?_
       refine LW.q rfl (Qt.move rfl) ?_
       refine LW.e rfl (Ef.call (Ri.withF B [rZ p2 A.length c2 A] (.slice p2 A.length c2) A (G[i] : Nat) (RdV.rz rfl hp2 (fun w ho => ho)) (by omega)) Try.func62 rfl rfl rfl ?_)
       rintro _ _ ⟨p7, c7, rfl, rfl⟩
       try simp only [List.cons_append, List.nil_append]
       refine LW.q rfl (Qt.assign rfl) ?_
       refine LW.done ?_
       refine T.region ?_
       refine LW.q rfl (Qt.add rfl rfl (wr64 (by omega) (by omega))) ?_
       refine LW.q rfl (Qt.move rfl) ?_
       refine LW.done ?_
       refine ⟨_, ?_, _, ⟨_, i + 1, withZ A ((G[i] : Nat) : Int), p7, c7, ⟨by omega, by rw [len_with]; omega, by rw [hsn, rawR_snoc, if_pos hxl, all_snoc, ← hA]⟩, rfl, (updS rfl (updS rfl (updS rfl (updS rfl (updS rfl (updS rfl rfl)))))), rfl⟩, Sub.any⟩
       first | omega | (simp; omega)
      ·
       refine T.skip ?_
       refine T.seq ?_
       refine T.block ?_
       refine T.seq ?_
       refine T.region ?_
       refine LW.q rfl (Qt.index i (e := 2) (sz := 1) (by kernel_rfl) rfl rfl rfl hix) ?_
       refine LW.q rfl (Qt.load (v := .int .i64 (G[i] : Nat)) (by kernel_rfl) rfl (by simp [hix])) ?_
       refine LW.q rfl (Qt.assign rfl) ?_
       refine LW.done ?_
       refine T.seq ?_
       refine T.region ?_
       refine LW.q rfl (Qt.move rfl) ?_
       refine LW.q rfl (Qt.fieldAddr (off := 1) (by kernel_rfl) rfl) ?_
       first | refine LW.q rfl (Qt.load (by kernel_rfl) rfl rfl) ?_ | refine LW.q rfl (Qt.load (by kernel_rfl) rfl (map_at _ _ _ (by omega))) ?_ | refine LW.q rfl (Qt.load (by kernel_rfl) rfl (flat_cell0 _ _ _ (by intros; rfl) _ (by omega) (by rfl))) ?_ | refine LW.q rfl (Qt.load (by kernel_rfl) rfl (flat_cell _ _ _ (by intros; rfl) _ _ (by omega) (by rfl))) ?_ | refine LW.q rfl (Qt.load (by kernel_rfl) rfl (bytes_at _ _ (by omega))) ?_
       refine LW.q rfl (Qt.geq rfl rfl) ?_
       refine LW.done ?_
       first | refine T.condF rfl ?_ | refine T.condPF rfl (by omega) ?_ | refine T.condBF rfl (by omega) ?_
       refine T.skip ?_
       refine T.region ?_
       refine LW.q rfl (Qt.add rfl rfl (wr64 (by omega) (by omega))) ?_
       refine LW.q rfl (Qt.move rfl) ?_
       refine LW.done ?_
       refine ⟨_, ?_, _, ⟨_, i + 1, A, p2, c2, ⟨by omega, by omega, by rw [hsn, rawR_snoc, if_neg hxl, ← hA]⟩, rfl, (updS rfl (updS rfl (updS rfl (updS rfl (updS rfl (updS rfl rfl)))))), rfl⟩, Sub.any⟩
       first | omega | (simp; omega)
     ·
      rw [List.take_of_length_le (by omega), hG] at hA
      have hA2 : A = rightZ b := hA
      subst hA2
      refine T.exit ?_
      refine T.seq ?_
      refine T.region ?_
      refine LW.q rfl (Qt.move rfl) ?_
      refine LW.q rfl (Qt.move rfl) ?_
      refine LW.q rfl (Qt.assign rfl) ?_
      refine LW.q rfl (Qt.assign rfl) ?_
      refine LW.q rfl (Qt.assign rfl) ?_
      refine LW.done ?_
      refine T.ret ?_
      exact ⟨.inl rfl, _, _, res [_, _, _] rfl ⟨rvT rfl, rvT rfl, rvT rfl, trivial⟩, ⟨p1, c1, p2, c2, by rw [e1, e2, e3]; rfl, by rw [e1, e2]⟩, Sub.any⟩
 ·
  first | refine LW.q rfl (Qt.notP rfl) ?_ | refine LW.q rfl (Qt.notB rfl) ?_
  refine LW.done ?_
  first | refine T.condT rfl ?_ | refine T.condPT rfl ((h)) ?_ | refine T.condBT rfl ((h)) ?_
  have e1 : leftI f t = [] := by unfold leftI; rw [if_neg h]
  have e2 : rightI f t = [] := by unfold rightI; rw [if_neg h]
  have e3 : codeP f t = 40 := by unfold codeP; rw [if_neg h]
  refine T.conv (l' := rZ none ([] : List Int).length 0 [] :: _) (fun w ho => ho.row_nil 2 1) ?_
  refine T.conv (l' := rZ none ([] : List Int).length 0 [] :: _) (fun w ho => ho.row_nil 2 1) ?_
  refine T.seq ?_
  refine T.region ?_
  refine LW.q rfl (Qt.assign rfl) ?_
  refine LW.q rfl (Qt.assign rfl) ?_
  refine LW.q rfl (Qt.assign rfl) ?_
  refine LW.done ?_
  refine T.ret ?_
  exact ⟨.inl rfl, _, _, res [_, _, _] rfl ⟨rvT rfl, rvT rfl, rvT rfl, trivial⟩, ⟨none, 0, none, 0, by rw [e1, e2, e3]; rfl, by rw [e1, e2]⟩, Sub.any⟩
theorem rz_any {B : Base} {p1 p2 : Option Addr} {c1 c2 : Nat} {l : List Int} (hp1 : 0 < l.length → ∃ g, p1 = some ⟨g, 0, none⟩) (hp2 : 0 < l.length → ∃ g, p2 = some ⟨g, 0, none⟩) (hn : l.length < 2 ^ 40) : Fn Try.prog B 31 #[.slice p1 l.length c1, .slice p2 l.length c2] [rZ p1 l.length c1 l, rZ p2 l.length c2 l] (fun u k => u = .bool true ∧ k = [rZ p1 l.length c1 l, rZ p2 l.length c2 l]) := by
  have := Ri.longs B [rZ p1 l.length c1 l, rZ p2 l.length c2 l] (.slice p1 l.length c1) (.slice p2 l.length c2) l l (RdV.rz rfl hp1 (fun w ho => ho.map Sub.any)) (RdV.rz rfl hp2 (fun w ho => ho.map Sub.any)) hn hn
  rw [decide_eq_true rfl] at this
  exact this
set_option maxHeartbeats 4000000 in
set_option maxRecDepth 100000 in
theorem Ri.forks (B : Base) (f t : Int) : Fn Try.prog B 7 #[pdV f t] [] (fun u l => u = .bool true ∧ l = []) := by
  have hl1 : (leftI f t).length ≤ 41 := by unfold leftI; split; exact (left_spec _).2.2; simp
  have hl2 : (rightI f t).length ≤ 41 := by unfold rightI; split; exact (right_spec _).2.2; simp
  refine Fn.enter1 60 Try.func7 rfl rfl (Nat.le_of_ble_eq_true rfl) (fun F => ?_)
  try simp only [List.cons_append, List.nil_append]
  refine T.seq ?_
  refine T.region ?_
  refine LW.e rfl (Ef.box [_, _] rfl rfl ?_)
  intro g1
  refine LW.q rfl (Qt.assign rfl) ?_
  refine LW.done ?_
  refine T.seq ?_
  refine T.seq ?_
  refine T.region ?_
  refine LW.e rfl (Ef.call (Ri.awake B) Try.func26 rfl rfl rfl ?_)
  rintro _ _ ⟨rfl, rfl⟩
  try simp only [List.cons_append, List.nil_append]
  first | refine LW.q rfl (Qt.notP rfl) ?_ | refine LW.q rfl (Qt.notB rfl) ?_
  refine LW.done ?_
  first | refine T.condF rfl ?_ | refine T.condPF rfl (by omega) ?_ | refine T.condBF rfl (by omega) ?_
  refine T.skip ?_
  refine T.seq ?_
  refine T.region ?_
  first | refine LW.q rfl (Qt.loadAgg [_, _] (by kernel_rfl) rfl ⟨rfl, rfl, trivial⟩) ?_ | refine LW.q rfl (Qt.loadAgg [_, _] (by kernel_rfl) rfl (by exact rdl_flat _ _ _ (by intros; rfl) _ (by omega))) ?_
  refine LW.e rfl (Ef.call (Ri.forkA B f t) Try.func27 rfl rfl rfl ?_)
  rintro _ _ ⟨rfl, rfl⟩
  try simp only [List.cons_append, List.nil_append]
  refine LW.q rfl (Qt.move rfl) ?_
  refine LW.q rfl (Qt.extr rfl rfl) ?_
  refine LW.q rfl (Qt.extr rfl rfl) ?_
  refine LW.q rfl (Qt.assign rfl) ?_
  refine LW.q rfl (Qt.assign rfl) ?_
  refine LW.done ?_
  refine T.seq ?_
  refine T.region ?_
  first | refine LW.q rfl (Qt.loadAgg [_, _] (by kernel_rfl) rfl ⟨rfl, rfl, trivial⟩) ?_ | refine LW.q rfl (Qt.loadAgg [_, _] (by kernel_rfl) rfl (by exact rdl_flat _ _ _ (by intros; rfl) _ (by omega))) ?_
  refine LW.e rfl (Ef.call (Ri.rfork B f t) Try.func28 rfl rfl rfl ?_)
  rintro _ _ ⟨rfl, rfl⟩
  try simp only [List.cons_append, List.nil_append]
  refine LW.q rfl (Qt.move rfl) ?_
  refine LW.q rfl (Qt.extr rfl rfl) ?_
  refine LW.q rfl (Qt.extr rfl rfl) ?_
  refine LW.q rfl (Qt.assign rfl) ?_
  refine LW.q rfl (Qt.assign rfl) ?_
  refine LW.done ?_
  refine T.seq ?_
  refine T.region ?_
  first | refine LW.q rfl (Qt.loadAgg [_, _] (by kernel_rfl) rfl ⟨rfl, rfl, trivial⟩) ?_ | refine LW.q rfl (Qt.loadAgg [_, _] (by kernel_rfl) rfl (by exact rdl_flat _ _ _ (by intros; rfl) _ (by omega))) ?_
  refine LW.e rfl (Ef.call (Ri.nodesA B f t) Try.func29 rfl rfl rfl ?_)
  rintro _ _ ⟨p1, c1, p2, c2, rfl, rfl⟩
  try simp only [List.cons_append, List.nil_append]
  refine LW.q rfl (Qt.move rfl) ?_
  refine LW.q rfl (Qt.extr rfl rfl) ?_
  refine LW.q rfl (Qt.extr rfl rfl) ?_
  refine LW.q rfl (Qt.extr rfl rfl) ?_
  refine LW.q rfl (Qt.assign rfl) ?_
  refine LW.q rfl (Qt.assign rfl) ?_
  refine LW.q rfl (Qt.assign rfl) ?_
  refine LW.done ?_
  refine T.seq ?_
  refine T.region ?_
  first | refine LW.q rfl (Qt.loadAgg [_, _] (by kernel_rfl) rfl ⟨rfl, rfl, trivial⟩) ?_ | refine LW.q rfl (Qt.loadAgg [_, _] (by kernel_rfl) rfl (by exact rdl_flat _ _ _ (by intros; rfl) _ (by omega))) ?_
  refine LW.e rfl (Ef.call (Ri.rnodes B f t) Try.func30 rfl rfl rfl ?_)
  rintro _ _ ⟨p3, c3, p4, c4, rfl, rfl⟩
  try simp only [List.cons_append, List.nil_append]
  refine LW.own fun w1 ho1 => ?_
  have hp1 := (ho1.slice_at (p := p1) (m := (leftI f t).length) (c := c1) (k := (leftI f t).length)).2.1
  have hp2 := (ho1.slice_at (p := p2) (m := (rightI f t).length) (c := c2) (k := (rightI f t).length)).2.1
  have hp3 := (ho1.slice_at (p := p3) (m := (leftI f t).length) (c := c3) (k := (leftI f t).length)).2.1
  have hp4 := (ho1.slice_at (p := p4) (m := (rightI f t).length) (c := c4) (k := (rightI f t).length)).2.1
  clear ho1
  refine LW.q rfl (Qt.move rfl) ?_
  refine LW.q rfl (Qt.extr rfl rfl) ?_
  refine LW.q rfl (Qt.extr rfl rfl) ?_
  refine LW.q rfl (Qt.extr rfl rfl) ?_
  refine LW.q rfl (Qt.assign rfl) ?_
  refine LW.q rfl (Qt.assign rfl) ?_
  refine LW.q rfl (Qt.assign rfl) ?_
  refine LW.done ?_
  refine T.seq ?_
  refine T.region ?_
  refine LW.q rfl (Qt.move rfl) ?_
  refine LW.q rfl (Qt.move rfl) ?_
  refine LW.q rfl (Qt.eql rfl rfl) ?_
  refine LW.q rfl (Qt.move rfl) ?_
  first | refine LW.gT (t := 40) rfl rfl ?_ | refine LW.gT (t := 40) rfl (decide_eq_true (by omega)) ?_ | refine LW.gT (t := 40) rfl (by omega) ?_
  refine LW.q rfl (Qt.move rfl) ?_
  refine LW.q rfl (Qt.move rfl) ?_
  refine LW.q rfl (Qt.eql rfl rfl) ?_
  refine LW.q rfl (Qt.pick rfl rfl) ?_
  refine LW.q rfl (Qt.move rfl) ?_
  first | refine LW.gT (t := 45) rfl rfl ?_ | refine LW.gT (t := 45) rfl (decide_eq_true (by omega)) ?_ | refine LW.gT (t := 45) rfl (by omega) ?_
  refine LW.q rfl (Qt.move rfl) ?_
  refine LW.q rfl (Qt.move rfl) ?_
  refine LW.e rfl (Ef.call (rz_any (c1 := c1) (c2 := c3) hp1 hp3 (by omega)) Try.func31 rfl rfl rfl ?_)
  rintro _ _ ⟨rfl, rfl⟩
  try simp only [List.cons_append, List.nil_append]
  refine LW.q rfl (Qt.pick rfl rfl) ?_
  refine LW.q rfl (Qt.move rfl) ?_
  first | refine LW.gT (t := 50) rfl rfl ?_ | refine LW.gT (t := 50) rfl (decide_eq_true (by omega)) ?_ | refine LW.gT (t := 50) rfl (by omega) ?_
  refine LW.q rfl (Qt.move rfl) ?_
  refine LW.q rfl (Qt.move rfl) ?_
  refine LW.e rfl (Ef.call (rz_any (c1 := c2) (c2 := c4) hp2 hp4 (by omega)) Try.func31 rfl rfl rfl ?_)
  rintro _ _ ⟨rfl, rfl⟩
  try simp only [List.cons_append, List.nil_append]
  refine LW.q rfl (Qt.pick rfl rfl) ?_
  refine LW.q rfl (Qt.move rfl) ?_
  first | refine LW.gT (t := 55) rfl rfl ?_ | refine LW.gT (t := 55) rfl (decide_eq_true (by omega)) ?_ | refine LW.gT (t := 55) rfl (by omega) ?_
  refine LW.q rfl (Qt.move rfl) ?_
  refine LW.q rfl (Qt.move rfl) ?_
  refine LW.q rfl (Qt.eql rfl rfl) ?_
  refine LW.q rfl (Qt.pick rfl rfl) ?_
  refine LW.q rfl (Qt.assign rfl) ?_
  refine LW.done ?_
  refine T.ret ?_
  exact ⟨.inl rfl, _, _, res [_] rfl ⟨rvT rfl, trivial⟩, ⟨by simp [outV], rfl⟩, Sub.any⟩
end Go.Proofs.Ytefognjcognknaa

/- The law RitreeForks of annalslaw10 holds: for all arguments of bulk at most 1048576 the call returns true and the arguments read as before. Condition: the bound of the second form. -/
set_option linter.unusedSimpArgs false
set_option linter.unusedVariables false
namespace Go.Proofs.Ytefognjcognknaa.ritreeForks
open Go.ChangeShapes Go.WideShapes Go.ChangeAt Go.RowKit

set_option maxRecDepth 100000 in
theorem contract (H : Type) (enc : TypeId × Value → H) (W : World) (base : Nat) (args : Array Value) (ds gs : List (DataW H)) (before : List MemPlace)
    (hval : ∀ (j : Nat) t v, Try.f7.params[j]? = some t → args[j]? = some v → Value.okWide Try.prog W .any base t v)
    (hW : DataW.Whole enc Try.prog Try.f7.params.toList Rows.ritreeForksSpec.vars false W args.toList ds gs before) (hk : Rows.uptoSmall H (ds ++ gs) = true) :
    Calls Try.prog 7 args W fun e W' => ∃ v, e = .returned v ∧ Rows.ritreeForksSpec.post enc Try.prog Try.f7 false true false false W args v W' := by
  have hW0 := hW
  obtain ⟨p, q, hA0, hV, rfl, hfz, hnd⟩ := hW
  have hA : DataW.TrodAll enc Try.prog W 0 (fun _ => true) true Try.f7.params.toList args.toList ds p := hA0
  rw [Try.params7] at hA hval
  obtain ⟨v0, d0, rfl, rfl, h0⟩ := trodAll_one hA
  obtain ⟨rfl, rfl⟩ := trodVars_none hV
  have hbulk := Try.upto_bound hk
  rw [List.append_nil] at hbulk
  clear hA0 hV hk
  obtain ⟨oc0, rfl, _, _⟩ := (show ∃ cs, v0 = .agg cs ∧ cs.size = Try.prog.cellsOf 57 ∧ Row.okWide Try.prog W .any base 57 cs by have := hval 0 57 v0 rfl rfl; simpa only [Value.okWide, Try.underlying57] using this)
  obtain ⟨fu0, t0⟩ := h0
  obtain ⟨⟨pf0, pt0⟩, ho0, hL0⟩ := read_pd _ _ _ t0
  unfold PdR at ho0
  simp only [Value.cells] at ho0
  obtain rfl : oc0 = #[.int .i64 pf0, .int .i64 pt0] := by apply Array.toList_inj.1; rw [ho0]
  dsimp only at hL0

  refine (Fn.law (Ri.forks _ pf0 pt0)).mono fun e W' ⟨he, hg⟩ => ?_
  subst he
  exact ⟨_, rfl, post_law Try.laidOut hW0 rfl rfl 4 Try.underlying4 (by kernel_rfl) (by rw [Try.params7]; decide +kernel) hg.toBelow⟩

set_option maxRecDepth 100000 in
theorem lifted (os : Os) (started : os.Started) (H : Type) (enc : TypeId × Value → H) (F : Stop.Interp) :
    ReturnsInHanded {} Try.checked os 7 .any ((Rows.OpenSpec.upto Rows.ritreeForksSpec).pre6 enc Try.prog Try.f7 Rows.ritreeForksUptoRow.domain false) (((Rows.OpenSpec.upto Rows.ritreeForksSpec).at F).post enc Try.prog Try.f7 false true false false) := by
  refine returnsInHanded_of_cond (C := Try.checked) (s := Rows.OpenSpec.upto Rows.ritreeForksSpec) (k := Rows.uptoSmall) rfl Try.own started (by kernel_rfl) Try.func7
    (OpenSpec.witness (enc := enc) (C := Try.checked) (s := Rows.OpenSpec.upto Rows.ritreeForksSpec) (k := Rows.uptoSmall) rfl false ⟨#[], #[.agg #[.int .i64 0, .int .i64 0]], []⟩ 8 (by kernel_rfl) (by kernel_rfl) (by kernel_rfl)
      (x := ([.agg [.lit (.int .i64 0), .lit (.int .i64 0)]], [], [])) (by kernel_rfl) rfl (by kernel_rfl)) ?_
  intro W base args ds gs before hval hW _ hk _
  exact contract H enc W base args ds gs before hval hW hk

theorem over : Rows.ritreeForksUptoRow.holds Try.pinned (Rows.OpenSpec.upto Rows.ritreeForksSpec) :=
  OpenClaim.holds_of_cond 7 Try.f7 rfl rfl rfl rfl rfl rfl rfl ⟨rfl, rfl, rfl, rfl, rfl⟩ rfl rfl rfl rfl rfl (by kernel_rfl) Try.func7 (by kernel_rfl)
    (of_decide_eq_true (by kernel_rfl)) (by unfold Func.isWrapper; first | (rw [if_pos (by decide +kernel)]; kernel_rfl) | (rw [if_neg (by decide +kernel)]; exact ⟨rfl, rfl⟩))
    (fun os started H enc _ F => lifted os started H enc F)

theorem proved : Rows.RitreeForksUptoSaid := over
end Go.Proofs.Ytefognjcognknaa.ritreeForks
