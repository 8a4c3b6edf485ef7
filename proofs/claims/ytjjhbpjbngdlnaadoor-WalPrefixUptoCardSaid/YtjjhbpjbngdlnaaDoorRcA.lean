/- The statements' own codec (annalsref02): the sum bit by bit is the program's; bit, Get, Number. Conditions: sizes. -/
import Derived.Test.YtjjhbpjbngdlnaaDoorPgF
import Derived.Test.YtjjhbpjbngdlnaaDoorSlI
set_option linter.unusedSimpArgs false
set_option linter.unusedVariables false
namespace Go.Proofs.YtjjhbpjbngdlnaaDoor
open Go.RowKit

def tb (x : UInt32) (k : Nat) : Bool := x.toNat.testBit k
theorem tb_ext {a b : UInt32} (h : ∀ k, tb a k = tb b k) : a = b := UInt32.toNat_inj.1 (Nat.eq_of_testBit_eq h)
theorem tb_xor (a b : UInt32) (k : Nat) : tb (a ^^^ b) k = (tb a k ^^ tb b k) := by simp [tb, UInt32.toNat_xor, Nat.testBit_xor]
theorem tb_shr (a : UInt32) (k : Nat) : tb (a >>> 1) k = tb a (k + 1) := by
  unfold tb
  rw [UInt32.toNat_shiftRight, Nat.testBit_shiftRight]
  rw [show (1 : UInt32).toNat % 32 = 1 from rfl, Nat.add_comm]
theorem tb_low (a : UInt32) : (a &&& 1 = 1) ↔ tb a 0 = true := by
  unfold tb
  rw [← UInt32.toNat_inj, UInt32.toNat_and, Nat.testBit_zero, show (1 : UInt32).toNat = 1 from rfl, Nat.and_one_is_mod]
  simp
def crcP : UInt32 := 3988292384
theorem tb_crcBit (t : UInt32) (k : Nat) : tb (crcBit t) k = (tb t (k + 1) ^^ (tb t 0 && tb crcP k)) := by
  unfold crcBit
  by_cases h : t &&& 1 = 1
  · rw [if_pos h, tb_xor, tb_shr, (tb_low t).1 h, Bool.true_and]; rfl
  · rw [if_neg h, tb_shr]
    have : tb t 0 = false := by
      cases e : tb t 0 with
      | false => rfl
      | true => exact absurd ((tb_low t).2 e) h
    rw [this]; simp
def stepB (s : UInt32) (b : Bool) : UInt32 := crcBit (if b then s ^^^ 1 else s)
theorem tb_one (k : Nat) : tb 1 k = decide (k = 0) := by
  unfold tb
  rw [show (1 : UInt32).toNat = 1 from rfl]
  cases k with
  | zero => rfl
  | succ k => simp [Nat.testBit_succ]
theorem tb_stepB (s : UInt32) (b : Bool) (k : Nat) : tb (stepB s b) k = (tb s (k + 1) ^^ ((tb s 0 ^^ b) && tb crcP k)) := by
  unfold stepB
  rw [tb_crcBit]
  cases b with
  | false => simp
  | true => simp [tb_xor, tb_one]
theorem crcBits_comm (k : Nat) (s : UInt32) : crcBits (k + 1) s = crcBits k (crcBit s) := by
  induction k with
  | zero => rfl
  | succ k ih => rw [crcBits, ih]; rfl
theorem tb_ofNat {x : Nat} (h : x < 2 ^ 32) (k : Nat) : tb (UInt32.ofNat x) k = x.testBit k := by
  unfold tb; rw [UInt32.toNat_ofNat', Nat.mod_eq_of_lt h]
/-- k bits of x, the lowest first. -/
def bitsB : Nat → Nat → UInt32 → UInt32
  | 0, _, s => s
  | k + 1, x, s => bitsB k (x / 2) (stepB s (x.testBit 0))
theorem crcBits_bitsB : ∀ (k x : Nat) (s : UInt32), x < 2 ^ k → k ≤ 32 → crcBits k (s ^^^ UInt32.ofNat x) = bitsB k x s
  | 0, x, s, h, _ => by
    obtain rfl : x = 0 := by simpa using h
    rw [crcBits, bitsB]; exact UInt32.xor_zero
  | k + 1, x, s, h, hk => by
    have hx : x < 2 ^ 32 := Nat.lt_of_lt_of_le h (Nat.pow_le_pow_right (by omega) hk)
    have hx2 : x / 2 < 2 ^ k := by rw [Nat.pow_succ] at h; omega
    have e : crcBit (s ^^^ UInt32.ofNat x) = stepB s (x.testBit 0) ^^^ UInt32.ofNat (x / 2) := tb_ext fun j => by
      rw [tb_crcBit, tb_xor, tb_xor, tb_xor, tb_stepB, tb_ofNat hx, tb_ofNat hx, tb_ofNat (by omega), Nat.testBit_succ]
      cases tb s (j + 1) <;> cases (x / 2).testBit j <;> cases tb s 0 <;> cases x.testBit 0 <;> cases tb crcP j <;> rfl
    rw [crcBits_comm, e, crcBits_bitsB k (x / 2) _ hx2 (by omega), bitsB]
def bitsF (j x : Nat) (s : UInt32) : UInt32 := (List.range j).foldl (fun s t => stepB s (x.testBit t)) s
theorem bitsF_succ (j x : Nat) (s : UInt32) : bitsF (j + 1) x s = stepB (bitsF j x s) (x.testBit j) := by simp [bitsF, List.range_succ]
theorem bitsF_front : ∀ (j x : Nat) (s : UInt32), bitsF (j + 1) x s = bitsF j (x / 2) (stepB s (x.testBit 0))
  | 0, x, s => by simp [bitsF, List.range_succ]
  | j + 1, x, s => by rw [bitsF_succ, bitsF_front j x s, bitsF_succ, Nat.testBit_succ]
theorem bitsB_F : ∀ (k x : Nat) (s : UInt32), bitsB k x s = bitsF k x s
  | 0, _, _ => rfl
  | k + 1, x, s => by rw [bitsB, bitsB_F, bitsF_front]
theorem crcByte_bits (s : UInt32) (x : UInt8) : crcByte s x = bitsF 8 x.toNat s := by
  unfold crcByte
  rw [show x.toUInt32 = UInt32.ofNat x.toNat by apply UInt32.toNat_inj.1; simp, crcBits_bitsB 8 _ _ x.toNat_lt (by omega), bitsB_F]
/-- The register behind i bits of the text. -/
def regI (a : List UInt8) (i : Nat) : UInt32 := bitsF (i % 8) (a.getD (i / 8) 0).toNat (crcS (a.take (i / 8)))
theorem regI_zero (a : List UInt8) : regI a 0 = 4294967295 := rfl
theorem regI_succ (a : List UInt8) (i : Nat) (h : i / 8 < a.length) : regI a (i + 1) = stepB (regI a i) ((a.getD (i / 8) 0).toNat.testBit (i % 8)) := by
  unfold regI
  rw [← bitsF_succ]
  by_cases h7 : i % 8 = 7
  · have e1 : (i + 1) / 8 = i / 8 + 1 := by omega
    have e2 : (i + 1) % 8 = 0 := by omega
    rw [e1, e2, h7, List.take_succ_eq_append_getElem h, crcS_snoc, crcByte_bits]
    simp [bitsF, List.getD, h]
  · have e1 : (i + 1) / 8 = i / 8 := by omega
    have e2 : (i + 1) % 8 = i % 8 + 1 := by omega
    rw [e1, e2]
theorem regI_all (a : List UInt8) : regI a (8 * a.length) = crcS a := by
  unfold regI
  rw [show 8 * a.length % 8 = 0 by omega, show 8 * a.length / 8 = a.length by omega, List.take_length]
  rfl
/-- Bit k of a register as a number. -/
def bitN (s : UInt32) (k : Nat) : Nat := (tb s k).toNat
theorem bitN_le (s : UInt32) (k : Nat) : bitN s k ≤ 1 := by unfold bitN; cases tb s k <;> simp
theorem bitN_step (s : UInt32) (b k : Nat) (hb : b ≤ 1) (B : Bool) (hB : B = decide (b = 1)) : bitN (stepB s B) k = (bitN s (k + 1) + ((bitN s 0 + b) % 2) * bitN crcP k) % 2 := by
  subst hB
  unfold bitN
  rw [tb_stepB]
  have : b = 0 ∨ b = 1 := by omega
  rcases this with rfl | rfl <;> cases tb s (k + 1) <;> cases tb s 0 <;> cases tb crcP k <;> rfl
theorem bitN_top (s : UInt32) : bitN s 32 = 0 := by
  unfold bitN tb
  rw [Nat.testBit_lt_two_pow (by have := s.toNat_lt; omega)]
  rfl
theorem not_low (s : UInt32) (k : Nat) (hk : k < 32) : (~~~ s).toNat % 2 ^ (k + 1) = (~~~ s).toNat % 2 ^ k + (if bitN s k = 0 then 2 ^ k else 0) := by
  rw [Nat.mod_pow_succ]
  have h1 : (~~~ s).toNat / 2 ^ k % 2 = ((~~~ s).toNat.testBit k).toNat := (Nat.toNat_testBit _ _).symm
  have h2 : (~~~ s).toNat.testBit k = ! tb s k := by
    rw [UInt32.toNat_not]
    have : UInt32.size - 1 - s.toNat = 2 ^ 32 - (s.toNat + 1) := by have : UInt32.size = 2 ^ 32 := rfl; omega
    rw [this, Nat.testBit_two_pow_sub_succ s.toNat_lt]
    simp [hk, tb]
  rw [h1, h2]
  unfold bitN
  cases tb s k <;> simp

theorem quo8 (j : Nat) (h : j < 2 ^ 40) : IntKind.i64.wrap ((j : Int).tdiv 8) = ((j / 8 : Nat) : Int) := by
  have : (j : Int).tdiv 8 = ((j / 8 : Nat) : Int) := rfl
  rw [this]; exact wr64 (by omega) (by omega)
theorem quo256 (m : Nat) (h : m < 2 ^ 64) : IntKind.u64.wrap ((m : Int).tdiv 256) = ((m / 256 : Nat) : Int) := by
  have : (m : Int).tdiv 256 = ((m / 256 : Nat) : Int) := rfl
  rw [this]; exact wru64 (by omega) (by omega)
theorem rem_nat (j m : Nat) : (j : Int).tmod (m : Int) = ((j % m : Nat) : Int) := rfl

set_option maxHeartbeats 1000000 in
set_option maxRecDepth 100000 in
theorem Rc.bit (B : Base) (a : List UInt8) (i : Int) (j : Nat) (hi : i = j) (hj : j / 8 < a.length) (hl : a.length < 2 ^ 36) : Fn Tryd.prog B 80 #[.string (strOf a), .int .i64 i] [] (fun v l => v = .int .i64 ((a.getD (j / 8) 0).toNat.testBit (j % 8)).toNat ∧ l = []) := by
  subst hi
  have hg : a.getD (j / 8) 0 = a[j / 8] := by simp [List.getD, hj]
  have hx := (a[j / 8]).toNat_lt
  have hb : ((a.getD (j / 8) 0).toNat.testBit (j % 8)).toNat = a[j / 8].toNat / 2 ^ (j % 8) % 2 := by rw [hg, Nat.toNat_testBit]
  have hq : a[j / 8].toNat / 2 ^ (j % 8) < 256 := Nat.lt_of_le_of_lt (Nat.div_le_self _ _) hx
  obtain ⟨q, hqq⟩ : ∃ q, a[j / 8].toNat / 2 ^ (j % 8) = q := ⟨_, rfl⟩
  rw [hqq] at hq hb
  refine Fn.enter2 14 Tryd.func80 rfl rfl (Nat.le_of_ble_eq_true rfl) (fun F => ?_)
  try simp only [List.cons_append, List.nil_append]
  refine T.seq ?_
  refine T.region ?_
  refine LW.q rfl (Qt.assign rfl) ?_
  refine LW.done ?_
  refine T.seq ?_
  refine T.region ?_
  refine LW.q rfl (Qt.move rfl) ?_
  refine LW.q rfl (Qt.move rfl) ?_
  refine LW.q rfl (Qt.quo rfl rfl (by omega) (quo8 j (by omega))) ?_
  refine LW.q rfl (Qt.indexS (j / 8) (by kernel_rfl) rfl rfl rfl hj) ?_
  refine LW.q rfl (Qt.move rfl) ?_
  refine LW.q rfl (Qt.rem rfl rfl (by omega) (rem_nat j 8)) ?_
  refine LW.q rfl (Qt.shr8 (j % 8) q rfl rfl rfl (by omega) hqq) ?_
  refine LW.q rfl (Qt.convI (by kernel_rfl) (by kernel_rfl) rfl (wr64 (by omega) (by omega))) ?_
  refine LW.q rfl (Qt.rem rfl rfl (by omega) (rem_nat _ 2)) ?_
  refine LW.q rfl (Qt.assign rfl) ?_
  refine LW.done ?_
  refine T.ret ?_
  exact ⟨.inl rfl, _, _, res [_] rfl ⟨rvT rfl, trivial⟩, ⟨by rw [hb]; rfl, rfl⟩, Sub.any⟩

set_option maxHeartbeats 1000000 in
set_option maxRecDepth 100000 in
theorem Rc.get (B : Base) (a : List UInt8) (ha : a.length ≤ 8) : Fn Tryd.prog B 56 #[.string (strOf a)] [] (fun v l => v = .int .u64 (get64 a).toNat ∧ l = []) := by
  refine Fn.enter1 19 Tryd.func56 rfl rfl (Nat.le_of_ble_eq_true rfl) (fun F => ?_)
  try simp only [List.cons_append, List.nil_append]
  refine T.seq ?_
  refine T.region ?_
  refine LW.q rfl (Qt.assign rfl) ?_
  refine LW.done ?_
  refine T.seq ?_
  refine T.region ?_
  refine LW.q rfl (Qt.assign rfl) ?_
  refine LW.done ?_
  refine T.seq ?_
  refine T.seq ?_
  refine T.region ?_
  refine LW.q rfl (Qt.assign rfl) ?_
  refine LW.done ?_
  refine T.block ?_
  refine T.loop (fun mz fz lz => ∃ (f0 : Fr) (k m : Nat), (k ≤ a.length ∧ m = natOf (a.take k)) ∧ mz = a.length - k ∧ fz = (upd (upd (upd f0 0 (.string (strOf a))) 3 (.int .u64 m)) 4 (.int .i64 k)) ∧ lz = F) ?_ ?_
  · refine ⟨_, _, ⟨_, 0, 0, ⟨Nat.zero_le _, rfl⟩, rfl, (updS rfl (updS rfl (updS rfl rfl))), rfl⟩, Sub.any⟩
  · skip
    rintro mz fz lz ⟨f0, k, m, ⟨hk, hm⟩, hmz, rfl, rfl⟩
    subst mz
    try simp only [List.cons_append, List.nil_append]
    refine T.seq ?_
    refine T.seq ?_
    refine T.region ?_
    refine LW.q rfl (Qt.move rfl) ?_
    refine LW.q rfl (Qt.move rfl) ?_
    first | refine LW.q rfl (Qt.lenSt (by kernel_rfl) rfl) ?_ | refine LW.q rfl (Qt.lenS (by kernel_rfl) rfl) ?_
    refine LW.q rfl (Qt.lss rfl rfl) ?_
    refine LW.done ?_
    refine T.condP rfl (fun hlt => ?_) (fun hlt => ?_)
    · skip
      have hx := (a[k]'(by omega)).toNat_lt
      have hb : m < 256 ^ 7 := by rw [hm]; exact Nat.lt_of_lt_of_le (natOf_lt _) (Nat.pow_le_pow_right (by omega) (by simp; omega))
      refine T.skip ?_
      refine T.seq ?_
      refine T.block ?_
      refine T.region ?_
      refine LW.q rfl (Qt.move rfl) ?_
      refine LW.q rfl (Qt.mul rfl rfl (wru64 (by omega) (by omega))) ?_
      refine LW.q rfl (Qt.move rfl) ?_
      refine LW.q rfl (Qt.move rfl) ?_
      refine LW.q rfl (Qt.indexS k (by kernel_rfl) rfl rfl rfl (by omega)) ?_
      refine LW.q rfl (Qt.convI (by kernel_rfl) (by kernel_rfl) rfl (wru64 (by omega) (by omega))) ?_
      refine LW.q rfl (Qt.add rfl rfl (wru64 (by omega) (by omega))) ?_
      refine LW.q rfl (Qt.assign rfl) ?_
      refine LW.done ?_
      refine T.region ?_
      refine LW.q rfl (Qt.move rfl) ?_
      refine LW.q rfl (Qt.add rfl rfl (wr64 (by omega) (by omega))) ?_
      refine LW.q rfl (Qt.assign rfl) ?_
      refine LW.done ?_
      refine ⟨_, ?_, _, ⟨_, k + 1, m * 256 + (a[k]'(by omega)).toNat, ⟨by omega, by rw [List.take_succ_eq_append_getElem (by omega), natOf_snoc, hm]⟩, rfl, (updS rfl (updS rfl (updS rfl rfl))), rfl⟩, Sub.any⟩
      first | omega | (simp; omega)
    · skip
      have e : k = a.length := by omega
      rw [e, List.take_length] at hm
      refine T.exit ?_
      refine T.seq ?_
      refine T.region ?_
      refine LW.q rfl (Qt.move rfl) ?_
      refine LW.q rfl (Qt.assign rfl) ?_
      refine LW.done ?_
      refine T.ret ?_
      exact ⟨.inl rfl, _, _, res [_] rfl ⟨rvT rfl, trivial⟩, ⟨by rw [hm, get64_nat a ha]; rfl, rfl⟩, Sub.any⟩

set_option maxHeartbeats 1000000 in
set_option maxRecDepth 100000 in
theorem Rc.number (B : Base) (N : UInt64) (i : Int) (k : Nat) (hi : i = k) (hk : k ≤ 8) : Fn Tryd.prog B 54 #[.int .u64 N.toNat, .int .i64 i] [] (fun v l => v = .string (strOf (be N k)) ∧ l = []) := by
  subst hi
  have hN := N.toNat_lt
  refine Fn.enter2 26 Tryd.func54 rfl rfl (Nat.le_of_ble_eq_true rfl) (fun F => ?_)
  try simp only [List.cons_append, List.nil_append]
  refine T.seq ?_
  refine T.region ?_
  refine LW.q rfl (Qt.assign rfl) ?_
  refine LW.done ?_
  refine T.seq ?_
  refine T.region ?_
  refine LW.q rfl (Qt.assign rfl) ?_
  refine LW.done ?_
  refine T.seq ?_
  refine T.seq ?_
  refine T.region ?_
  refine LW.q rfl (Qt.assign rfl) ?_
  refine LW.done ?_
  refine T.block ?_
  refine T.loop (fun mz fz lz => ∃ (f0 : Fr) (j m : Nat) (acc : List UInt8), (j ≤ k ∧ m = N.toNat / 2 ^ (8 * j) ∧ acc = be N j) ∧ mz = k - j ∧ fz = (upd (upd (upd (upd f0 0 (.int .u64 m)) 1 (.int .i64 k)) 5 (.string (strOf acc))) 6 (.int .i64 j)) ∧ lz = F) ?_ ?_
  · refine ⟨_, _, ⟨_, 0, N.toNat, [], ⟨Nat.zero_le _, by simp, rfl⟩, rfl, (updS rfl (updS rfl (updS rfl (updS rfl rfl)))), rfl⟩, Sub.any⟩
  · skip
    rintro mz fz lz ⟨f0, j, m, acc, ⟨hj, hm, hacc⟩, hmz, rfl, rfl⟩
    subst mz
    try simp only [List.cons_append, List.nil_append]
    have hml : m < 2 ^ 64 := by rw [hm]; exact Nat.lt_of_le_of_lt (Nat.div_le_self _ _) hN
    have hal : acc.length = j := by rw [hacc, length_be]
    refine T.seq ?_
    refine T.seq ?_
    refine T.region ?_
    refine LW.q rfl (Qt.move rfl) ?_
    refine LW.q rfl (Qt.move rfl) ?_
    refine LW.q rfl (Qt.lss rfl rfl) ?_
    refine LW.q rfl (Qt.move rfl) ?_
    refine LW.split (t := 10) rfl (fun hlt => ?_) (fun hlt => ?_)
    · skip
      try replace hlt := of_decide_eq_true hlt
      refine LW.q rfl (Qt.move rfl) ?_
      refine LW.q rfl (Qt.lss rfl rfl) ?_
      refine LW.q rfl (Qt.pick rfl rfl) ?_
      refine LW.done ?_
      first | refine T.condT rfl ?_ | refine T.condPT rfl (by omega) ?_ | refine T.condBT rfl (by omega) ?_
      have hmm : m % 256 = (UInt8.ofNat m).toNat := by simp
      refine T.skip ?_
      refine T.seq ?_
      refine T.block ?_
      refine T.seq ?_
      refine T.region ?_
      refine LW.q rfl (Qt.move rfl) ?_
      refine LW.q rfl (Qt.rem rfl rfl (by omega) (rem_nat m 256)) ?_
      refine LW.q rfl (Qt.convI (by kernel_rfl) (by kernel_rfl) rfl (wr8 (by omega) (by omega))) ?_
      refine LW.e rfl (Ef.one [_] (e := 5) (sz := 1) (by kernel_rfl) ⟨.int .u8 0, by kernel_rfl, rfl⟩ rfl rfl rfl (by omega) (by omega) ?_)
      intro g19
      rw [hmm]
      refine LW.q rfl (Qt.str [UInt8.ofNat m] (by kernel_rfl) (by kernel_rfl) rfl (fun w ho => (rdv_blk (g := g19) (n := 1) (c := 1) rfl rfl).reads w ho)) ?_
      refine LW.q rfl (Qt.move rfl) ?_
      refine LW.q rfl (Qt.addS rfl rfl (by simp [hal]; omega)) ?_
      refine LW.q rfl (Qt.assign rfl) ?_
      refine LW.done ?_
      refine T.region ?_
      refine LW.q rfl (Qt.move rfl) ?_
      refine LW.q rfl (Qt.quo rfl rfl (by omega) (quo256 m hml)) ?_
      refine LW.q rfl (Qt.assign rfl) ?_
      refine LW.done ?_
      refine T.region ?_
      refine LW.q rfl (Qt.move rfl) ?_
      refine LW.q rfl (Qt.add rfl rfl (wr64 (by omega) (by omega))) ?_
      refine LW.q rfl (Qt.assign rfl) ?_
      refine LW.done ?_
      refine ⟨_, ?_, _, ⟨_, j + 1, m / 256, UInt8.ofNat m :: acc, ⟨by omega, by rw [hm, Nat.div_div_eq_div_mul, show 2 ^ (8 * (j + 1)) = 2 ^ (8 * j) * 256 by rw [Nat.mul_add, Nat.pow_add]], by rw [hacc, hm]; rfl⟩, rfl, (updS rfl (updS rfl (updS rfl (updS rfl rfl)))), rfl⟩, Sub.any⟩
      first | omega | (simp; omega)
    · skip
      try replace hlt := of_decide_eq_false hlt
      refine LW.s rfl ?_
      refine LW.s rfl ?_
      refine LW.q rfl (Qt.pick rfl rfl) ?_
      refine LW.done ?_
      first | refine T.condF rfl ?_ | refine T.condPF rfl (by omega) ?_ | refine T.condBF rfl (by omega) ?_
      obtain rfl : j = k := by omega
      refine T.exit ?_
      refine T.seq ?_
      refine T.region ?_
      refine LW.q rfl (Qt.move rfl) ?_
      refine LW.q rfl (Qt.assign rfl) ?_
      refine LW.done ?_
      refine T.ret ?_
      exact ⟨.inl rfl, _, _, res [_] rfl ⟨rvT rfl, trivial⟩, ⟨by rw [hacc]; rfl, rfl⟩, Sub.any⟩
end Go.Proofs.YtjjhbpjbngdlnaaDoor
