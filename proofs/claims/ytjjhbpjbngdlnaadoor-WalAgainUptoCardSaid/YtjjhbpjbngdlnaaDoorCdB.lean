/- The package codec: Get and Put; slices.Clone of bytes. Conditions: that what is handed in can be read; sizes. -/
import Derived.Test.YtjjhbpjbngdlnaaDoorCdA
import Derived.Test.YtjjhbpjbngdlnaaDoorSlG
namespace Go.Proofs.YtjjhbpjbngdlnaaDoor
open Go.RowKit

theorem Cd.elemB : ElemOk Tryd.prog 22 5 1 1 := .mk' (.int .u8 0) Tryd.underlying22 (by kernel_rfl) rfl (by omega)
abbrev rB (v : Value) (n : Nat) (b : List UInt8) : Assn := row v 5 1 n (bytesV b)

def get64 (l : List UInt8) : UInt64 := l.foldl (fun n x => (n <<< 8) ||| x.toUInt64) 0
theorem get64_snoc (l : List UInt8) (x : UInt8) : get64 (l ++ [x]) = (get64 l <<< 8) ||| x.toUInt64 := by simp [get64]
/-- A number's lowest bytes, the highest of them first. -/
def be (n : UInt64) : Nat → List UInt8
  | 0 => []
  | k + 1 => UInt8.ofNat (n.toNat / 2 ^ (8 * k)) :: be n k
theorem length_be (n : UInt64) : ∀ k, (be n k).length = k
  | 0 => rfl
  | k + 1 => by simp [be, length_be n k]

set_option maxHeartbeats 1000000 in
set_option maxRecDepth 100000 in
theorem Cd.get (B : Base) (S : List Assn) (v : Value) (b : List UInt8) (hv : RdV B S v (bytesV b)) (hb : b.length < 2 ^ 48) : Fn Tryd.prog B 49 #[v] S (fun u l => u = .int .u64 (get64 b).toNat ∧ l = S) := by
  obtain ⟨a, c, rfl⟩ := hv.form (m := b.length) (by simp)
  refine Fn.enter1 19 Tryd.func49 rfl rfl (Nat.le_of_ble_eq_true rfl) (fun F => ?_)
  try simp only [List.cons_append, List.nil_append]
  refine T.seq ?_
  refine T.region ?_
  refine LW.q rfl (Qt.assign rfl) ?_
  refine LW.done ?_
  refine T.seq ?_
  refine T.region ?_
  refine LW.q rfl (Qt.assign rfl) ?_
  refine LW.done ?_
  refine T.seq ?_
  refine T.seq ?_
  refine T.region ?_
  refine LW.q rfl (Qt.move rfl) ?_
  refine LW.q rfl (Qt.len (e := 5) (sz := 1) (by kernel_rfl) rfl) ?_
  refine LW.q rfl (Qt.move rfl) ?_
  refine LW.done ?_
  refine T.block ?_
  refine T.loop (fun mz fz lz => ∃ (f0 : Fr) (k : Nat) (s : UInt64), (k ≤ b.length ∧ s = get64 (b.take k)) ∧ mz = b.length - k ∧ fz = (upd (upd (upd (upd f0 3 (.int .u64 s.toNat)) 6 (.slice a b.length c)) 7 (.int .i64 b.length)) 8 (.int .i64 k)) ∧ lz = S ++ F) ?_ ?_
  · refine ⟨_, _, ⟨_, 0, 0, ⟨Nat.zero_le _, rfl⟩, rfl, (updS rfl (updS rfl (updS rfl (updS rfl rfl)))), rfl⟩, Sub.any⟩
  · skip
    rintro mz fz lz ⟨f0, k, s, ⟨hk, hs⟩, hmz, rfl, rfl⟩
    subst mz
    try simp only [List.cons_append, List.nil_append]
    refine T.seq ?_
    refine T.region ?_
    refine LW.q rfl (Qt.lss rfl rfl) ?_
    refine LW.done ?_
    refine T.seq ?_
    refine T.condP rfl (fun hlt => ?_) (fun hlt => ?_)
    · skip
      obtain ⟨g, o, rfl, hc⟩ := hv.at (by omega)
      have hx := (b[k]'(by omega)).toNat_lt
      refine T.skip ?_
      refine T.seq ?_
      refine T.block ?_
      refine T.seq ?_
      refine T.region ?_
      refine LW.q rfl (Qt.index _ (e := 5) (sz := 1) (by kernel_rfl) rfl rfl rfl (by omega)) ?_
      refine LW.q rfl (Qt.loadW (v := .int .u8 (b[k]'(by omega)).toNat) (by kernel_rfl) rfl (fun w ho => by rw [hc k (by simp; omega) w ho.drop]; simp [bytesV])) ?_
      refine LW.q rfl (Qt.assign rfl) ?_
      refine LW.done ?_
      refine T.region ?_
      refine LW.q rfl (Qt.move rfl) ?_
      refine LW.q rfl (Qt.shl64 rfl rfl) ?_
      refine LW.q rfl (Qt.move rfl) ?_
      refine LW.q rfl (Qt.convI (by kernel_rfl) (by kernel_rfl) rfl (wru64 (by omega) (by omega))) ?_
      refine LW.q rfl (Qt.or64 (b[k]'(by omega)).toUInt64 rfl rfl (by simp)) ?_
      refine LW.q rfl (Qt.assign rfl) ?_
      refine LW.done ?_
      refine T.region ?_
      refine LW.q rfl (Qt.add rfl rfl (wr64 (by omega) (by omega))) ?_
      refine LW.q rfl (Qt.move rfl) ?_
      refine LW.done ?_
      refine ⟨_, ?_, _, ⟨_, k + 1, _, ⟨by omega, by rw [List.take_succ_eq_append_getElem (by omega), get64_snoc, ← hs]⟩, rfl, (updS rfl (updS rfl (updS rfl (updS rfl rfl)))), rfl⟩, Sub.any⟩
      first | omega | (simp; omega)
    · skip
      have e : k = b.length := by omega
      rw [e, List.take_length] at hs
      refine T.exit ?_
      refine T.seq ?_
      refine T.region ?_
      refine LW.q rfl (Qt.move rfl) ?_
      refine LW.q rfl (Qt.assign rfl) ?_
      refine LW.done ?_
      refine T.ret ?_
      exact ⟨.inl rfl, _, _, res [_] rfl ⟨rvT rfl, trivial⟩, ⟨by rw [hs]; rfl, rfl⟩, Sub.any⟩

set_option maxHeartbeats 1000000 in
set_option maxRecDepth 100000 in
theorem Cd.put (B : Base) (S : List Assn) (v : Value) (b : List UInt8) (m : Nat) (hm : b.length = m) (n : UInt64) (i : Int) (k : Nat) (hi : i = k) (hk : k ≤ 8) (hv : RdV B S v (bytesV b)) (hb : m < 2 ^ 40) : Fn Tryd.prog B 53 #[v, .int .u64 n.toNat, .int .i64 i] S (fun u l => ∃ p c, u = .slice p (m + k) c ∧ l = rB (.slice p (m + k) c) (m + k) (b ++ be n k) :: S) := by
  subst hi
  subst hm
  obtain ⟨a, c, rfl⟩ := hv.form (m := b.length) (by simp)
  refine Fn.enter3 29 Tryd.func53 rfl rfl (Nat.le_of_ble_eq_true rfl) (fun F => ?_)
  try simp only [List.cons_append, List.nil_append]
  refine T.seq ?_
  refine T.region ?_
  refine LW.q rfl (Qt.assign rfl) ?_
  refine LW.done ?_
  refine T.seq ?_
  refine T.region ?_
  refine LW.e rfl (Ef.empty Cd.elemB ?_)
  rintro g9
  try simp only [List.cons_append, List.nil_append]
  refine LW.q rfl (Qt.move rfl) ?_
  refine LW.e rfl (Ef.append Cd.elemB rfl rfl (SrcOf.rd (m := b.length) (hv.mono (fun w ho => ho.tl.drop)) (by kernel_rfl) (by simp) one_bytesV) (by unfold maxLen; omega) (by omega) ?_)
  rintro p1 c1 hp1
  try simp only [List.cons_append, List.nil_append]
  simp only [Nat.zero_add, List.nil_append]
  refine LW.q rfl (Qt.assign rfl) ?_
  refine LW.done ?_
  refine T.seq ?_
  refine T.seq ?_
  refine T.region ?_
  refine LW.q rfl (Qt.move rfl) ?_
  refine LW.q rfl (Qt.max rfl rfl) ?_
  refine LW.q rfl (Qt.min rfl rfl) ?_
  refine LW.q rfl (Qt.sub rfl rfl (wr64 (by omega) (by omega))) ?_
  refine LW.q rfl (Qt.assign rfl) ?_
  refine LW.done ?_
  refine T.block ?_
  refine T.loop (fun mz fz lz => ∃ (f0 : Fr) (j : Nat) (z : Int) (acc : List UInt8) (m : Nat) (p : Option Addr) (c : Nat), (j ≤ k ∧ z = (j : Int) - 1 ∧ acc ++ be n j = b ++ be n k ∧ m + j = b.length + k) ∧ mz = j ∧ fz = (upd (upd (upd f0 1 (.int .u64 n.toNat)) 7 (.slice p m c)) 8 (.int .i64 z)) ∧ lz = [rB (.slice p m c) m acc] ++ (S ++ F)) ?_ ?_
  · refine ⟨_, _, ⟨_, k, _, b, b.length, p1, c1, ⟨Nat.le_refl _, by omega, rfl, rfl⟩, rfl, (updS rfl (updS rfl (updS rfl rfl))), rfl⟩, Sub.any⟩
  · skip
    rintro mz fz lz ⟨f0, j, z, acc, m, p, c, ⟨hj, hz, hacc, hm⟩, hmz, rfl, rfl⟩
    subst mz
    try simp only [List.cons_append, List.nil_append]
    refine T.seq ?_
    refine T.seq ?_
    refine T.region ?_
    refine LW.q rfl (Qt.move rfl) ?_
    refine LW.q rfl (Qt.geq rfl rfl) ?_
    refine LW.done ?_
    refine T.condP rfl (fun hlt => ?_) (fun hlt => ?_)
    · skip
      obtain ⟨q, rfl⟩ : ∃ q, j = q + 1 := ⟨j - 1, by omega⟩
      refine T.skip ?_
      refine T.seq ?_
      refine T.block ?_
      refine T.region ?_
      refine LW.q rfl (Qt.move rfl) ?_
      refine LW.q rfl (Qt.move rfl) ?_
      refine LW.q rfl (Qt.move rfl) ?_
      refine LW.q rfl (Qt.mul rfl rfl (wr64 (by omega) (by omega))) ?_
      refine LW.q rfl (Qt.shr64 (8 * q) rfl rfl (by omega) (by omega)) ?_
      refine LW.q rfl (Qt.convI (by kernel_rfl) (by kernel_rfl) rfl (wr8_nat _)) ?_
      refine LW.e rfl (Ef.one [_] (e := 5) (sz := 1) (by kernel_rfl) ⟨.int .u8 0, by kernel_rfl, rfl⟩ rfl rfl rfl (by omega) (by omega) ?_)
      intro g26
      refine LW.e rfl (Ef.append Cd.elemB rfl rfl (SrcOf.blk (by kernel_rfl) rfl (by simp [Value.oneCell'])) (by unfold maxLen; omega) (by omega) ?_)
      rintro p2 c2 hp2
      try simp only [List.cons_append, List.nil_append]
      rw [show bytesV acc ++ [Value.int .u8 (UInt8.ofNat (n.toNat / 2 ^ (8 * q))).toNat] = bytesV (acc ++ [UInt8.ofNat (n.toNat / 2 ^ (8 * q))]) by simp [bytesV]]
      refine LW.q rfl (Qt.assign rfl) ?_
      refine LW.done ?_
      refine T.region ?_
      refine LW.q rfl (Qt.move rfl) ?_
      refine LW.q rfl (Qt.sub rfl rfl (wr64 (by omega) (by omega))) ?_
      refine LW.q rfl (Qt.assign rfl) ?_
      refine LW.done ?_
      refine ⟨_, ?_, _, ⟨_, q, _, acc ++ [UInt8.ofNat (n.toNat / 2 ^ (8 * q))], m + 1, p2, c2, ⟨by omega, by omega, by rw [← hacc]; simp [be], by omega⟩, rfl, (updS rfl (updS rfl (updS rfl rfl))), rfl⟩, Sub.any⟩
      first | omega | (simp; omega)
    · skip
      obtain rfl : j = 0 := by omega
      obtain rfl : acc = b ++ be n k := by simpa [be] using hacc
      obtain rfl : m = b.length + k := by omega
      refine T.exit ?_
      refine T.seq ?_
      refine T.region ?_
      refine LW.q rfl (Qt.move rfl) ?_
      refine LW.q rfl (Qt.assign rfl) ?_
      refine LW.done ?_
      refine T.ret ?_
      exact ⟨.inl rfl, _, _, res [_] rfl ⟨rvT rfl, trivial⟩, ⟨_, _, rfl, rfl⟩, Sub.any⟩

set_option maxHeartbeats 1000000 in
set_option maxRecDepth 100000 in
theorem Cd.clone (B : Base) (S : List Assn) (v : Value) (b : List UInt8) (m : Nat) (hm : b.length = m) (hv : RdV B S v (bytesV b)) (hb : m < 2 ^ 40) : Fn Tryd.prog B 48 #[v] S (fun u l => ∃ p c, u = .slice p m c ∧ l = rB (.slice p m c) m b :: S) := by
  subst hm
  obtain ⟨a, c, rfl⟩ := hv.form (m := b.length) (by simp)
  refine Fn.enter1 8 Tryd.func48 rfl rfl (Nat.le_of_ble_eq_true rfl) (fun F => ?_)
  try simp only [List.cons_append, List.nil_append]
  refine T.seq ?_
  refine T.region ?_
  refine LW.q rfl (Qt.assign rfl) ?_
  refine LW.done ?_
  refine T.seq ?_
  refine T.seq ?_
  refine T.region ?_
  refine LW.q rfl (Qt.move rfl) ?_
  refine LW.q rfl (Qt.eqlSl (by kernel_rfl) rfl rfl) ?_
  refine LW.done ?_
  refine T.cond rfl (fun h => ?_) (fun h => ?_)
  · skip
    have hb0 : b = [] := by rcases Nat.eq_zero_or_pos b.length with h0 | h0; exact List.eq_nil_of_length_eq_zero h0; obtain ⟨g, o, rfl, _⟩ := hv.at h0; cases h
    subst hb0
    refine T.conv (l' := rB (.slice none ([] : List UInt8).length 0) ([] : List UInt8).length [] :: (S ++ F)) (fun w ho => ho.row_nil _ _) ?_
    refine T.seq ?_
    refine T.region ?_
    refine LW.q rfl (Qt.assign rfl) ?_
    refine LW.done ?_
    refine T.ret ?_
    exact ⟨.inl rfl, _, _, res [_] rfl ⟨rvT rfl, trivial⟩, ⟨none, 0, rfl, rfl⟩, Sub.any⟩
  · skip
    refine T.skip ?_
    refine T.seq ?_
    refine T.region ?_
    refine LW.e rfl (Ef.empty Cd.elemB ?_)
    rintro g5
    try simp only [List.cons_append, List.nil_append]
    refine LW.q rfl (Qt.move rfl) ?_
    refine LW.e rfl (Ef.append Cd.elemB rfl rfl (SrcOf.rd (m := b.length) (hv.mono (fun w ho => ho.tl.drop)) (by kernel_rfl) (by simp) one_bytesV) (by unfold maxLen; omega) (by omega) ?_)
    rintro p1 c1 hp1
    try simp only [List.cons_append, List.nil_append]
    simp only [Nat.zero_add, List.nil_append]
    refine LW.q rfl (Qt.assign rfl) ?_
    refine LW.done ?_
    refine T.ret ?_
    exact ⟨.inl rfl, _, _, res [_] rfl ⟨rvT rfl, trivial⟩, ⟨_, _, rfl, rfl⟩, Sub.any⟩
theorem RdV.rB {B : Base} {p : Option Addr} {m c : Nat} {b : List UInt8} (hm : b.length = m) (hp : 0 < m → ∃ g, p = some ⟨g, 0, none⟩) : RdV B [rB (.slice p m c) m b] (.slice p m c) (bytesV b) :=
  RdV.ofRow (e := 5) (fun _ ho => ho.row_owns) (by simp [hm]) hp
theorem made_bytes (n : Nat) : (madeCells (Value.int .u8 0).cells (n * 1)).toList = bytesV (List.replicate n 0) := by
  rw [show (Value.int .u8 0).cells = (List.replicate 1 (Value.int .u8 0)).toArray from rfl, made_replicate _ 1 _ (by omega)]
  unfold bytesV
  rw [List.map_replicate, Nat.mul_one]
  rfl
end Go.Proofs.YtjjhbpjbngdlnaaDoor
