/- bytes.Trim with the cutset of one nought: is anything left? Conditions: that what is handed in can be read. -/
import Derived.Test.YtjjhbpjbngdlnaaDoorCdB
namespace Go.Proofs.YtjjhbpjbngdlnaaDoor
open Go.RowKit

theorem RdV.take {B : Base} {S : List Assn} {a : Option Addr} {m c : Nat} {cs : List Value} (h : RdV B S (.slice a m c) cs) (hi c' : Nat) (hh : hi ≤ cs.length) : RdV B S (.slice a hi c') (cs.take hi) := by
  have := h.sub 0 hi c' (Nat.zero_le _) hh a (fun _ b o e => by rw [e]; rfl)
  simpa using this

set_option maxHeartbeats 1000000 in
set_option maxRecDepth 100000 in
theorem Tr.right (B : Base) (S : List Assn) (a : Option Addr) (m c : Nat) (b : List UInt8) (hv : RdV B S (.slice a m c) (bytesV b)) (hm : b.length = m) (hc : m ≤ c) (hb : m < 2 ^ 48) : Fn Tryd.prog B 74 #[.slice a m c, .int .u8 0] S (fun u l => ∃ m', u = .slice a m' c ∧ m' ≤ m ∧ (∀ i (h : i < b.length), m' ≤ i → b[i] = 0) ∧ l = S) := by
  refine Fn.enter2 24 Tryd.func74 rfl rfl (Nat.le_of_ble_eq_true rfl) (fun F => ?_)
  try simp only [List.cons_append, List.nil_append]
  refine T.seq ?_
  refine T.region ?_
  refine LW.q rfl (Qt.assign rfl) ?_
  refine LW.done ?_
  refine T.seq ?_
  refine T.block ?_
  refine T.loop (fun mz fz lz => ∃ (f0 : Fr) (j : Nat), (j ≤ m ∧ ∀ i (h : i < b.length), j ≤ i → b[i] = 0) ∧ mz = j ∧ fz = (upd (upd f0 0 (.slice a j c)) 1 (.int .u8 0)) ∧ lz = S ++ F) ?_ ?_
  · refine ⟨_, _, ⟨_, m, ⟨Nat.le_refl _, fun i h1 h2 => by omega⟩, rfl, (updS rfl (updS rfl rfl)), rfl⟩, Sub.any⟩
  · skip
    rintro mz fz lz ⟨f0, j, ⟨hj, hz⟩, hmz, rfl, rfl⟩
    subst mz
    try simp only [List.cons_append, List.nil_append]
    refine T.seq ?_
    refine T.seq ?_
    refine T.region ?_
    refine LW.q rfl (Qt.move rfl) ?_
    refine LW.q rfl (Qt.len (e := 5) (sz := 1) (by kernel_rfl) rfl) ?_
    refine LW.q rfl (Qt.gtr rfl rfl) ?_
    refine LW.q rfl (Qt.move rfl) ?_
    refine LW.split (t := 8) rfl (fun hlt => ?_) (fun hlt => ?_)
    · skip
      try replace hlt := of_decide_eq_true hlt
      obtain ⟨g, o, rfl, hcell⟩ := hv.at (by omega)
      obtain ⟨q, rfl⟩ : ∃ q, j = q + 1 := ⟨j - 1, by omega⟩
      refine LW.q rfl (Qt.move rfl) ?_
      refine LW.q rfl (Qt.move rfl) ?_
      refine LW.q rfl (Qt.len (e := 5) (sz := 1) (by kernel_rfl) rfl) ?_
      refine LW.q rfl (Qt.sub rfl rfl (wr64 (by omega) (by omega))) ?_
      refine LW.q rfl (Qt.index q (e := 5) (sz := 1) (by kernel_rfl) rfl rfl (by omega) (by omega)) ?_
      refine LW.q rfl (Qt.loadW (v := .int .u8 (b[q]'(by omega)).toNat) (by kernel_rfl) rfl (fun w ho => by rw [hcell q (by simp; omega) w ho.drop]; simp [bytesV])) ?_
      refine LW.q rfl (Qt.move rfl) ?_
      refine LW.q rfl (Qt.eql rfl rfl) ?_
      refine LW.q rfl (Qt.pick rfl rfl) ?_
      refine LW.done ?_
      refine T.condP rfl (fun he => ?_) (fun he => ?_)
      · skip
        refine T.skip ?_
        refine T.block ?_
        refine T.region ?_
        refine LW.q rfl (Qt.move rfl) ?_
        refine LW.q rfl (Qt.move rfl) ?_
        refine LW.q rfl (Qt.len (e := 5) (sz := 1) (by kernel_rfl) rfl) ?_
        refine LW.q rfl (Qt.sub rfl rfl (wr64 (by omega) (by omega))) ?_
        refine LW.q rfl (Qt.slice_nsn q (e := 5) (sz := 1) (by kernel_rfl) rfl rfl (by omega) (by omega)) ?_
        refine LW.q rfl (Qt.assign rfl) ?_
        refine LW.done ?_
        refine ⟨_, ?_, _, ⟨_, q, ⟨by omega, fun i h1 h2 => by rcases Nat.eq_or_lt_of_le h2 with h3 | h3; subst h3; apply UInt8.toNat_inj.1; show _ = 0; omega; exact hz i h1 (by omega)⟩, rfl, (updS rfl (updS rfl rfl)), rfl⟩, Sub.any⟩
        first | omega | (simp; omega)
      · skip
        refine T.exit ?_
        refine T.seq ?_
        refine T.region ?_
        refine LW.q rfl (Qt.move rfl) ?_
        refine LW.q rfl (Qt.assign rfl) ?_
        refine LW.done ?_
        refine T.ret ?_
        exact ⟨.inl rfl, _, _, res [_] rfl ⟨rvT rfl, trivial⟩, ⟨_, rfl, hj, hz, rfl⟩, Sub.any⟩
    · skip
      try replace hlt := of_decide_eq_false hlt
      refine LW.s rfl ?_
      refine LW.s rfl ?_
      refine LW.s rfl ?_
      refine LW.s rfl ?_
      refine LW.s rfl ?_
      refine LW.s rfl ?_
      refine LW.s rfl ?_
      refine LW.s rfl ?_
      refine LW.q rfl (Qt.pick rfl rfl) ?_
      refine LW.done ?_
      first | refine T.condF rfl ?_ | refine T.condPF rfl (by omega) ?_ | refine T.condBF rfl (by omega) ?_
      refine T.exit ?_
      refine T.seq ?_
      refine T.region ?_
      refine LW.q rfl (Qt.move rfl) ?_
      refine LW.q rfl (Qt.assign rfl) ?_
      refine LW.done ?_
      refine T.ret ?_
      exact ⟨.inl rfl, _, _, res [_] rfl ⟨rvT rfl, trivial⟩, ⟨_, rfl, hj, hz, rfl⟩, Sub.any⟩

set_option maxHeartbeats 1000000 in
set_option maxRecDepth 100000 in
theorem Tr.left (B : Base) (S : List Assn) (a : Option Addr) (m c : Nat) (b : List UInt8) (hv : RdV B S (.slice a m c) (bytesV b)) (hm : b.length = m) (hc : m ≤ c) (hb : m < 2 ^ 48) : Fn Tryd.prog B 73 #[.slice a m c, .int .u8 0] S (fun u l => ∃ p' m' c', u = .slice p' m' c' ∧ (m' = 0 ↔ ∀ x ∈ b, x = 0) ∧ l = S) := by
  refine Fn.enter2 21 Tryd.func73 rfl rfl (Nat.le_of_ble_eq_true rfl) (fun F => ?_)
  try simp only [List.cons_append, List.nil_append]
  refine T.seq ?_
  refine T.region ?_
  refine LW.q rfl (Qt.assign rfl) ?_
  refine LW.done ?_
  refine T.seq ?_
  refine T.block ?_
  refine T.loop (fun mz fz lz => ∃ (f0 : Fr) (j k d : Nat) (p : Option Addr), (j ≤ m ∧ k = m - j ∧ d = c - j ∧ (∀ i (h : i < b.length), i < j → b[i] = 0) ∧ (j < m → ∀ g o, a = some ⟨g, o, none⟩ → p = some ⟨g, o + j * 1, none⟩)) ∧ mz = k ∧ fz = (upd (upd f0 0 (.slice p k d)) 1 (.int .u8 0)) ∧ lz = S ++ F) ?_ ?_
  · refine ⟨_, _, ⟨_, 0, m, c, a, ⟨Nat.zero_le _, rfl, rfl, fun i h1 h2 => by omega, fun _ g o e => by rw [e]; simp⟩, rfl, (updS rfl (updS rfl rfl)), rfl⟩, Sub.any⟩
  · skip
    rintro mz fz lz ⟨f0, j, k, d, p, ⟨hj, hk, hd, hz, hp⟩, hmz, rfl, rfl⟩
    subst mz
    try simp only [List.cons_append, List.nil_append]
    refine T.seq ?_
    refine T.seq ?_
    refine T.region ?_
    refine LW.q rfl (Qt.move rfl) ?_
    refine LW.q rfl (Qt.len (e := 5) (sz := 1) (by kernel_rfl) rfl) ?_
    refine LW.q rfl (Qt.gtr rfl rfl) ?_
    refine LW.q rfl (Qt.move rfl) ?_
    refine LW.split (t := 8) rfl (fun hlt => ?_) (fun hlt => ?_)
    · skip
      try replace hlt := of_decide_eq_true hlt
      obtain ⟨g, o, rfl, hcell⟩ := hv.at (by omega)
      obtain rfl := hp (by omega) g o rfl
      refine LW.q rfl (Qt.move rfl) ?_
      refine LW.q rfl (Qt.index 0 (e := 5) (sz := 1) (by kernel_rfl) rfl rfl rfl (by omega)) ?_
      refine LW.q rfl (Qt.loadW (v := .int .u8 (b[j]'(by omega)).toNat) (by kernel_rfl) rfl (fun w ho => by simp only [Nat.zero_mul, Nat.add_zero]; rw [hcell j (by simp; omega) w ho.drop]; simp [bytesV])) ?_
      refine LW.q rfl (Qt.move rfl) ?_
      refine LW.q rfl (Qt.eql rfl rfl) ?_
      refine LW.q rfl (Qt.pick rfl rfl) ?_
      refine LW.done ?_
      refine T.condP rfl (fun he => ?_) (fun he => ?_)
      · skip
        refine T.skip ?_
        refine T.block ?_
        refine T.region ?_
        refine LW.q rfl (Qt.move rfl) ?_
        refine LW.q rfl (Qt.slice_snn 1 (e := 5) (sz := 1) (by kernel_rfl) rfl rfl rfl (by omega)) ?_
        refine LW.q rfl (Qt.assign rfl) ?_
        refine LW.done ?_
        refine ⟨_, ?_, _, ⟨_, j + 1, k - 1, d - 1, _, ⟨by omega, by omega, by omega, fun i h1 h2 => by rcases Nat.eq_or_lt_of_le (Nat.le_of_lt_succ h2) with h3 | h3; subst h3; apply UInt8.toNat_inj.1; show _ = 0; omega; exact hz i h1 (by omega), fun h g' o' e => by cases e; rw [offA_some (by omega)]; first | (simp; done) | (simp; omega)⟩, rfl, (updS rfl (updS rfl rfl)), rfl⟩, Sub.any⟩
        first | omega | (simp; omega)
      · skip
        refine T.exit ?_
        refine T.seq ?_
        refine T.seq ?_
        refine T.region ?_
        refine LW.q rfl (Qt.move rfl) ?_
        refine LW.q rfl (Qt.len (e := 5) (sz := 1) (by kernel_rfl) rfl) ?_
        refine LW.q rfl (Qt.eql rfl rfl) ?_
        refine LW.done ?_
        first | refine T.condF rfl ?_ | refine T.condPF rfl (by omega) ?_ | refine T.condBF rfl (by omega) ?_
        refine T.skip ?_
        refine T.seq ?_
        refine T.region ?_
        refine LW.q rfl (Qt.move rfl) ?_
        refine LW.q rfl (Qt.assign rfl) ?_
        refine LW.done ?_
        refine T.ret ?_
        exact ⟨.inl rfl, _, _, res [_] rfl ⟨rvT rfl, trivial⟩, ⟨_, _, _, rfl, ⟨fun h => by omega, fun h => by have := h b[j] (List.getElem_mem _); rw [this] at he; exact absurd rfl he⟩, rfl⟩, Sub.any⟩
    · skip
      try replace hlt := of_decide_eq_false hlt
      refine LW.s rfl ?_
      refine LW.s rfl ?_
      refine LW.s rfl ?_
      refine LW.s rfl ?_
      refine LW.s rfl ?_
      refine LW.q rfl (Qt.pick rfl rfl) ?_
      refine LW.done ?_
      first | refine T.condF rfl ?_ | refine T.condPF rfl (by omega) ?_ | refine T.condBF rfl (by omega) ?_
      refine T.exit ?_
      refine T.seq ?_
      refine T.seq ?_
      refine T.region ?_
      refine LW.q rfl (Qt.move rfl) ?_
      refine LW.q rfl (Qt.len (e := 5) (sz := 1) (by kernel_rfl) rfl) ?_
      refine LW.q rfl (Qt.eql rfl rfl) ?_
      refine LW.done ?_
      first | refine T.condT rfl ?_ | refine T.condPT rfl (by omega) ?_ | refine T.condBT rfl (by omega) ?_
      refine T.seq ?_
      refine T.region ?_
      refine LW.q rfl (Qt.assign rfl) ?_
      refine LW.done ?_
      refine T.ret ?_
      exact ⟨.inl rfl, _, _, res [_] rfl ⟨rvT rfl, trivial⟩, ⟨_, _, _, rfl, ⟨fun _ x hx => by obtain ⟨i, hi, rfl⟩ := List.mem_iff_getElem.1 hx; exact hz i hi (by omega), fun _ => rfl⟩, rfl⟩, Sub.any⟩

set_option maxHeartbeats 1000000 in
set_option maxRecDepth 100000 in
theorem Tr.trim (B : Base) (S : List Assn) (a : Option Addr) (m c : Nat) (b : List UInt8) (hv : RdV B S (.slice a m c) (bytesV b)) (hm : b.length = m) (hc : m ≤ c) (hb : m < 2 ^ 48) : Fn Tryd.prog B 51 #[.slice a m c, .string (strOf [0])] S (fun u l => ∃ p' m' c', u = .slice p' m' c' ∧ (m' = 0 ↔ ∀ x ∈ b, x = 0) ∧ l = S) := by
  refine Fn.enter2 42 Tryd.func51 rfl rfl (Nat.le_of_ble_eq_true rfl) (fun F => ?_)
  try simp only [List.cons_append, List.nil_append]
  refine T.seq ?_
  refine T.region ?_
  refine LW.q rfl (Qt.assign rfl) ?_
  refine LW.done ?_
  refine T.seq ?_
  refine T.seq ?_
  refine T.region ?_
  refine LW.q rfl (Qt.move rfl) ?_
  refine LW.q rfl (Qt.len (e := 5) (sz := 1) (by kernel_rfl) rfl) ?_
  refine LW.q rfl (Qt.eql rfl rfl) ?_
  refine LW.done ?_
  refine T.condP rfl (fun h0 => ?_) (fun h0 => ?_)
  · skip
    refine T.seq ?_
    refine T.region ?_
    refine LW.q rfl (Qt.assign rfl) ?_
    refine LW.done ?_
    refine T.ret ?_
    exact ⟨.inl rfl, _, _, res [_] rfl ⟨rvT rfl, trivial⟩, ⟨_, _, _, rfl, ⟨fun _ x hx => (by obtain rfl : b = [] := List.eq_nil_of_length_eq_zero (by omega); cases hx), fun _ => rfl⟩, rfl⟩, Sub.any⟩
  · skip
    refine T.skip ?_
    refine T.seq ?_
    refine T.seq ?_
    refine T.region ?_
    refine LW.q rfl (Qt.move rfl) ?_
    refine LW.q rfl (Qt.eqlS (b := []) rfl rfl) ?_
    refine LW.done ?_
    first | refine T.condF rfl ?_ | refine T.condPF rfl (by simp) ?_ | refine T.condBF rfl (by simp) ?_
    refine T.skip ?_
    refine T.seq ?_
    refine T.seq ?_
    refine T.region ?_
    refine LW.q rfl (Qt.move rfl) ?_
    first | refine LW.q rfl (Qt.lenSt (by kernel_rfl) rfl) ?_ | refine LW.q rfl (Qt.lenS (by kernel_rfl) rfl) ?_
    refine LW.q rfl (Qt.eql rfl rfl) ?_
    refine LW.q rfl (Qt.move rfl) ?_
    first | refine LW.gT (t := 16) rfl rfl ?_ | refine LW.gT (t := 16) rfl (decide_eq_true (by omega)) ?_ | refine LW.gT (t := 16) rfl (by omega) ?_
    refine LW.q rfl (Qt.move rfl) ?_
    refine LW.q rfl (Qt.indexS 0 (by kernel_rfl) rfl rfl rfl (by first | omega | decide)) ?_
    refine LW.q rfl (Qt.lss rfl rfl) ?_
    refine LW.q rfl (Qt.pick rfl rfl) ?_
    refine LW.done ?_
    first | refine T.condT rfl ?_ | refine T.condPT rfl (by decide) ?_ | refine T.condBT rfl (by decide) ?_
    refine T.seq ?_
    refine T.draw 7 ([]) (by kernel_rfl) (Nat.le_of_ble_eq_true rfl) (by kernel_rfl) ?_
    refine RW.q 0 rfl rfl (by kernel_rfl) Sub.any (Qt.move rfl) ?_
    refine RW.q 1 rfl rfl (by kernel_rfl) Sub.any (Qt.move rfl) ?_
    refine RW.q 2 rfl rfl (by kernel_rfl) Sub.any (Qt.indexS 0 (by kernel_rfl) rfl rfl rfl (by first | omega | decide)) ?_
    refine RW.q 4 rfl rfl (by kernel_rfl) Sub.any (Qt.move rfl) ?_
    refine RW.q 5 rfl rfl (by kernel_rfl) Sub.any (Qt.indexS 0 (by kernel_rfl) rfl rfl rfl (by first | omega | decide)) ?_
    refine RW.one 3 (by kernel_rfl) ?_
    refine RO.eS rfl rfl (Ef.call (Tr.right B S a m c b hv hm hc hb) Tryd.func74 rfl rfl rfl ?_)
    rintro _ S ⟨m1, rfl, hm1, hz1, rfl⟩
    try simp only [List.cons_append, List.nil_append]
    refine ⟨Sub.any, ?_⟩
    refine RW.one 6 (by kernel_rfl) ?_
    refine RO.eS rfl rfl (Ef.call (Tr.left B S a m1 c (b.take m1) (by have := hv.take m1 c (by simp; omega); rwa [show (bytesV b).take m1 = bytesV (b.take m1) by simp [bytesV]] at this) (by simp; omega) (by omega) (by omega)) Tryd.func73 rfl rfl rfl ?_)
    rintro _ S ⟨p2, m2, c2, rfl, hz2, rfl⟩
    try simp only [List.cons_append, List.nil_append]
    refine ⟨Sub.any, ?_⟩
    refine RW.done (by rfl) ?_
    simp only [List.drop_succ_cons, List.drop_zero, List.drop_nil]
    refine LW.q rfl (Qt.assign rfl) ?_
    refine LW.done ?_
    refine T.ret ?_
    exact ⟨.inl rfl, _, _, res [_] rfl ⟨rvT rfl, trivial⟩, ⟨_, _, _, rfl, hz2.trans ⟨fun h x hx => by obtain ⟨i, hi, rfl⟩ := List.mem_iff_getElem.1 hx; by_cases hi2 : i < m1; exact h _ (List.mem_iff_getElem.2 ⟨i, by simp; omega, by simp⟩); exact hz1 i hi (by omega), fun h x hx => h x (List.mem_of_mem_take hx)⟩, rfl⟩, Sub.any⟩
end Go.Proofs.YtjjhbpjbngdlnaaDoor
