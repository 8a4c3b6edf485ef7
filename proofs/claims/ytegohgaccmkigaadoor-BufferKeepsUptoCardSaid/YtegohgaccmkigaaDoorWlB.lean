/- The package wal: lay. Conditions: sizes. -/
import Derived.Test.YtegohgaccmkigaaDoorWlA
set_option linter.unusedSimpArgs false
set_option linter.unusedVariables false
namespace Go.Proofs.YtegohgaccmkigaaDoor
open Go.RowKit

/-- A sector as it is by the text. -/
def secW (st : List UInt8) (n : Nat) : List UInt8 := (st.drop (n * 256)).take 256 ++ List.replicate (256 - ((st.drop (n * 256)).take 256).length) 0
theorem length_secW (st : List UInt8) (n : Nat) : (secW st n).length = 256 := by simp [secW]; omega
theorem secW_none {st : List UInt8} {n : Nat} (h : st.length ≤ n * 256) : secW st n = List.replicate 256 0 := by
  unfold secW; rw [List.drop_of_length_le h]; rfl
theorem splice_sec (st : List UInt8) (n : Nat) : splice (bytesV (List.replicate 256 0)) 0 ((bytesV (st.drop (n * 256))).take (Nat.min (st.length - n * 256) 256)) = bytesV (secW st n) := by
  have e : (bytesV (st.drop (n * 256))).take (Nat.min (st.length - n * 256) 256) = bytesV ((st.drop (n * 256)).take 256) := by
    rw [show Nat.min (st.length - n * 256) 256 = Min.min (st.drop (n * 256)).length 256 by rw [List.length_drop]]
    unfold bytesV
    rw [← List.map_take, Nat.min_comm, ← List.take_take, List.take_length]
  rw [e]
  unfold splice secW
  rw [Nat.zero_add, List.take_zero, List.nil_append, length_bytesV, bytesV_append]
  congr 1
  unfold bytesV
  rw [← List.map_drop, List.drop_replicate]
theorem row_bytes {p : Option Addr} {g m c : Nat} {b : List UInt8} (h : Piece) (k : rB (.slice (some ⟨g, 0, none⟩) m c) m b h) : ∃ C t fr, h g = some (.cells C t fr) ∧ ∀ j v, (bytesV b)[j]? = some v → C[0 + j]? = some v := by
  obtain ⟨hl, ⟨e, _⟩ | ⟨g', cap, cur, e1, e2, _, _, _, e3⟩⟩ := k
  · cases e
  · injection e1 with e1 _ _
    injection e1 with e1
    injection e1 with e1
    subst e1
    refine ⟨cur, _, _, e2, fun j v hv => ?_⟩
    rw [← e3, List.getElem?_take] at hv
    split at hv
    · rw [Nat.zero_add]; simpa using hv
    · cases hv

set_option maxHeartbeats 2000000 in
set_option maxRecDepth 100000 in
theorem Wl.lay (B : Base) (g b : Nat) (W : Wl) (p : Option Addr) (c : Nat) (hp : 0 < W.st.length → ∃ g, p = some ⟨g, 0, none⟩) (hc : W.st.length ≤ c) (D : DD) (n : Nat) (hn : n < W.count) (hD : W.first + W.count ≤ D.secs.length) (hs : D.secs.length ≤ 4096) (hst : W.st.length < 2 ^ 40) (hroom : D.pend.length < 2 ^ 32) : Fn Tryd.prog B 65 #[.pointer (some ⟨g, 0, none⟩), .int .i64 n] [wlB g b W p c, rB (.slice p W.st.length c) W.st.length W.st, dskA b D] (fun u l => u = .tuple #[] ∧ l = [wlB g b W p c, rB (.slice p W.st.length c) W.st.length W.st, dskA b (D.write (W.first + n) (secW W.st n))]) := by
  refine Fn.enter2 38 Tryd.func65 rfl rfl (Nat.le_of_ble_eq_true rfl) (fun F => ?_)
  try simp only [List.cons_append, List.nil_append]
  refine T.seq ?_
  refine T.region ?_
  refine LW.e rfl (Ef.make 256 (.int .u8 0) 1 Cd.elemB (by kernel_rfl) rfl rfl rfl rfl (by omega) (by unfold maxLen; omega) ?_)
  rintro g6
  try simp only [List.cons_append, List.nil_append]
  rw [made_bytes]
  refine LW.q rfl (Qt.assign rfl) ?_
  refine LW.done ?_
  refine T.seq ?_
  refine T.seq ?_
  refine T.region ?_
  refine LW.q rfl (Qt.move rfl) ?_
  refine LW.q rfl (Qt.mul rfl rfl (wr64 (by omega) (by omega))) ?_
  refine LW.q rfl (Qt.assign rfl) ?_
  refine LW.done ?_
  refine T.seq ?_
  refine T.region ?_
  refine LW.q rfl (Qt.move rfl) ?_
  refine LW.q rfl (Qt.move rfl) ?_
  refine LW.q rfl (Qt.nilCheck rfl) ?_
  refine LW.q rfl (Qt.fieldAddr (off := 3) (by kernel_rfl) rfl) ?_
  first | refine LW.q rfl (Qt.load (by kernel_rfl) rfl rfl) ?_ | refine LW.q rfl (Qt.load (by kernel_rfl) rfl (map_at _ _ _ (by omega))) ?_ | refine LW.q rfl (Qt.load (by kernel_rfl) rfl (flat_cell0 _ _ _ (by intros; rfl) _ (by omega) (by rfl))) ?_ | refine LW.q rfl (Qt.load (by kernel_rfl) rfl (flat_cell _ _ _ (by intros; rfl) _ _ (by omega) (by rfl))) ?_ | refine LW.q rfl (Qt.load (by kernel_rfl) rfl (bytes_at _ _ (by omega))) ?_
  refine LW.q rfl (Qt.len (e := 5) (sz := 1) (by kernel_rfl) rfl) ?_
  refine LW.q rfl (Qt.lss rfl rfl) ?_
  refine LW.done ?_
  refine T.condP rfl (fun hlt => ?_) (fun hlt => ?_)
  · skip
    obtain ⟨gs, rfl⟩ := hp (by omega)
    have hsrc : RdV B [rB (.slice (some ⟨gs, 0, none⟩) W.st.length c) W.st.length W.st] (.slice (some ⟨gs, 0 + n * 256, none⟩) (W.st.length - n * 256) (c - n * 256)) (bytesV (W.st.drop (n * 256))) := by have := (RdV.rB (B := B) (p := some ⟨gs, 0, none⟩) (c := c) (b := W.st) rfl (fun _ => ⟨_, rfl⟩)).sub (n * 256) W.st.length (c - n * 256) (by omega) (by simp) (some ⟨gs, 0 + n * 256, none⟩) (fun _ b' o' e => by cases e; rfl); rwa [List.take_of_length_le (by simp), show (bytesV W.st).drop (n * 256) = bytesV (W.st.drop (n * 256)) by simp [bytesV]] at this
    refine T.region ?_
    refine LW.q rfl (Qt.move rfl) ?_
    refine LW.q rfl (Qt.move rfl) ?_
    refine LW.q rfl (Qt.nilCheck rfl) ?_
    refine LW.q rfl (Qt.fieldAddr (off := 3) (by kernel_rfl) rfl) ?_
    first | refine LW.q rfl (Qt.load (by kernel_rfl) rfl rfl) ?_ | refine LW.q rfl (Qt.load (by kernel_rfl) rfl (map_at _ _ _ (by omega))) ?_ | refine LW.q rfl (Qt.load (by kernel_rfl) rfl (flat_cell0 _ _ _ (by intros; rfl) _ (by omega) (by rfl))) ?_ | refine LW.q rfl (Qt.load (by kernel_rfl) rfl (flat_cell _ _ _ (by intros; rfl) _ _ (by omega) (by rfl))) ?_ | refine LW.q rfl (Qt.load (by kernel_rfl) rfl (bytes_at _ _ (by omega))) ?_
    refine LW.q rfl (Qt.move rfl) ?_
    refine LW.q rfl (Qt.slice_sn1 (n * 256) (some ⟨gs, 0 + n * 256, none⟩) (W.st.length - n * 256) (c - n * 256) (e := 5) (sz := 1) (by kernel_rfl) rfl rfl (by omega) (by omega) (by rw [offA_some (by omega), Nat.mul_one]) rfl rfl) ?_
    refine LW.e rfl (Ef.copy (e := 5) (C := bytesV (List.replicate 256 0)) (cs := (bytesV (W.st.drop (n * 256))).take (Nat.min (W.st.length - n * 256) 256)) (src := bytesV (W.st.drop (n * 256))) (by kernel_rfl) rfl rfl (hsrc.mono (fun w ho => ho.map Sub.any)) (Nat.min (W.st.length - n * 256) 256) rfl (by show 0 < Min.min _ _; omega) rfl (by simp) one_bytesV (by rw [length_bytesV, List.length_replicate]; show 0 + Min.min _ _ ≤ _; omega) ?_)
    try simp only [List.cons_append, List.nil_append]
    rw [splice_sec]
    refine LW.done ?_
    refine T.drawBl 14 none (by kernel_rfl) (Nat.le_of_ble_eq_true rfl) (by kernel_rfl) ?_
    refine RW.q 0 rfl rfl (by kernel_rfl) Sub.any (Qt.move rfl) ?_
    refine RW.q 1 rfl rfl (by kernel_rfl) Sub.any (Qt.nilCheck rfl) ?_
    refine RW.q 2 rfl rfl (by kernel_rfl) Sub.any (Qt.fieldAddr0 (by kernel_rfl) rfl) ?_
    refine RW.q 3 rfl rfl (by kernel_rfl) Sub.any (Qt.fieldAddr0 (by kernel_rfl) rfl) ?_
    first | refine RW.q 4 rfl rfl (by kernel_rfl) Sub.any (Qt.load (by kernel_rfl) rfl rfl) ?_ | refine RW.q 4 rfl rfl (by kernel_rfl) Sub.any (Qt.load (by kernel_rfl) rfl (map_at _ _ _ (by omega))) ?_ | refine RW.q 4 rfl rfl (by kernel_rfl) Sub.any (Qt.load (by kernel_rfl) rfl (flat_cell0 _ _ _ (by intros; rfl) _ (by omega) (by rfl))) ?_ | refine RW.q 4 rfl rfl (by kernel_rfl) Sub.any (Qt.load (by kernel_rfl) rfl (flat_cell _ _ _ (by intros; rfl) _ _ (by omega) (by rfl))) ?_ | refine RW.q 4 rfl rfl (by kernel_rfl) Sub.any (Qt.load (by kernel_rfl) rfl (bytes_at _ _ (by omega))) ?_
    refine RW.q 5 rfl rfl (by kernel_rfl) Sub.any (Qt.move rfl) ?_
    refine RW.q 6 rfl rfl (by kernel_rfl) Sub.any (Qt.nilCheck rfl) ?_
    refine RW.q 7 rfl rfl (by kernel_rfl) Sub.any (Qt.fieldAddr0 (by kernel_rfl) rfl) ?_
    refine RW.q 8 rfl rfl (by kernel_rfl) Sub.any (Qt.fieldAddr (off := 1) (by kernel_rfl) rfl) ?_
    first | refine RW.q 9 rfl rfl (by kernel_rfl) Sub.any (Qt.load (by kernel_rfl) rfl rfl) ?_ | refine RW.q 9 rfl rfl (by kernel_rfl) Sub.any (Qt.load (by kernel_rfl) rfl (map_at _ _ _ (by omega))) ?_ | refine RW.q 9 rfl rfl (by kernel_rfl) Sub.any (Qt.load (by kernel_rfl) rfl (flat_cell0 _ _ _ (by intros; rfl) _ (by omega) (by rfl))) ?_ | refine RW.q 9 rfl rfl (by kernel_rfl) Sub.any (Qt.load (by kernel_rfl) rfl (flat_cell _ _ _ (by intros; rfl) _ _ (by omega) (by rfl))) ?_ | refine RW.q 9 rfl rfl (by kernel_rfl) Sub.any (Qt.load (by kernel_rfl) rfl (bytes_at _ _ (by omega))) ?_
    refine RW.q 10 rfl rfl (by kernel_rfl) Sub.any (Qt.move rfl) ?_
    refine RW.q 11 rfl rfl (by kernel_rfl) Sub.any (Qt.add rfl rfl (wr64 (by omega) (by omega))) ?_
    refine RW.q 12 rfl rfl (by kernel_rfl) Sub.any (Qt.move rfl) ?_
    refine RW.one 13 (by kernel_rfl) ?_
    refine RO.eS rfl rfl (Ef.call (Dk.writeF B b D (rB (.slice (some ⟨g6, 0, none⟩) 256 256) 256 (secW W.st n)) g6 0 256 (W.first + n) _ (by omega) (secW W.st n) (row_bytes (p := none)) (by omega) (length_secW _ _) hroom) Tryd.func42 rfl rfl rfl ?_)
    rintro _ _ ⟨rfl, rfl⟩
    try simp only [List.cons_append, List.nil_append]
    refine ⟨Sub.any, ?_⟩
    refine RW.done (by rfl) ?_
    simp only [List.drop_succ_cons, List.drop_zero, List.drop_nil]
    refine LW.done ?_
    exact ⟨.inr rfl, _, _, res [] rfl trivial, ⟨rfl, rfl⟩, Sub.any⟩
  · skip
    rw [← secW_none (st := W.st) (n := n) (by omega)]
    refine T.skip ?_
    refine T.drawBl 14 none (by kernel_rfl) (Nat.le_of_ble_eq_true rfl) (by kernel_rfl) ?_
    refine RW.q 0 rfl rfl (by kernel_rfl) Sub.any (Qt.move rfl) ?_
    refine RW.q 1 rfl rfl (by kernel_rfl) Sub.any (Qt.nilCheck rfl) ?_
    refine RW.q 2 rfl rfl (by kernel_rfl) Sub.any (Qt.fieldAddr0 (by kernel_rfl) rfl) ?_
    refine RW.q 3 rfl rfl (by kernel_rfl) Sub.any (Qt.fieldAddr0 (by kernel_rfl) rfl) ?_
    first | refine RW.q 4 rfl rfl (by kernel_rfl) Sub.any (Qt.load (by kernel_rfl) rfl rfl) ?_ | refine RW.q 4 rfl rfl (by kernel_rfl) Sub.any (Qt.load (by kernel_rfl) rfl (map_at _ _ _ (by omega))) ?_ | refine RW.q 4 rfl rfl (by kernel_rfl) Sub.any (Qt.load (by kernel_rfl) rfl (flat_cell0 _ _ _ (by intros; rfl) _ (by omega) (by rfl))) ?_ | refine RW.q 4 rfl rfl (by kernel_rfl) Sub.any (Qt.load (by kernel_rfl) rfl (flat_cell _ _ _ (by intros; rfl) _ _ (by omega) (by rfl))) ?_ | refine RW.q 4 rfl rfl (by kernel_rfl) Sub.any (Qt.load (by kernel_rfl) rfl (bytes_at _ _ (by omega))) ?_
    refine RW.q 5 rfl rfl (by kernel_rfl) Sub.any (Qt.move rfl) ?_
    refine RW.q 6 rfl rfl (by kernel_rfl) Sub.any (Qt.nilCheck rfl) ?_
    refine RW.q 7 rfl rfl (by kernel_rfl) Sub.any (Qt.fieldAddr0 (by kernel_rfl) rfl) ?_
    refine RW.q 8 rfl rfl (by kernel_rfl) Sub.any (Qt.fieldAddr (off := 1) (by kernel_rfl) rfl) ?_
    first | refine RW.q 9 rfl rfl (by kernel_rfl) Sub.any (Qt.load (by kernel_rfl) rfl rfl) ?_ | refine RW.q 9 rfl rfl (by kernel_rfl) Sub.any (Qt.load (by kernel_rfl) rfl (map_at _ _ _ (by omega))) ?_ | refine RW.q 9 rfl rfl (by kernel_rfl) Sub.any (Qt.load (by kernel_rfl) rfl (flat_cell0 _ _ _ (by intros; rfl) _ (by omega) (by rfl))) ?_ | refine RW.q 9 rfl rfl (by kernel_rfl) Sub.any (Qt.load (by kernel_rfl) rfl (flat_cell _ _ _ (by intros; rfl) _ _ (by omega) (by rfl))) ?_ | refine RW.q 9 rfl rfl (by kernel_rfl) Sub.any (Qt.load (by kernel_rfl) rfl (bytes_at _ _ (by omega))) ?_
    refine RW.q 10 rfl rfl (by kernel_rfl) Sub.any (Qt.move rfl) ?_
    refine RW.q 11 rfl rfl (by kernel_rfl) Sub.any (Qt.add rfl rfl (wr64 (by omega) (by omega))) ?_
    refine RW.q 12 rfl rfl (by kernel_rfl) Sub.any (Qt.move rfl) ?_
    refine RW.one 13 (by kernel_rfl) ?_
    refine RO.eS rfl rfl (Ef.call (Dk.writeF B b D (rB (.slice (some ⟨g6, 0, none⟩) 256 256) 256 (secW W.st n)) g6 0 256 (W.first + n) _ (by omega) (secW W.st n) (row_bytes (p := none)) (by omega) (length_secW _ _) hroom) Tryd.func42 rfl rfl rfl ?_)
    rintro _ _ ⟨rfl, rfl⟩
    try simp only [List.cons_append, List.nil_append]
    refine ⟨Sub.any, ?_⟩
    refine RW.done (by rfl) ?_
    simp only [List.drop_succ_cons, List.drop_zero, List.drop_nil]
    refine LW.done ?_
    exact ⟨.inr rfl, _, _, res [] rfl trivial, ⟨rfl, rfl⟩, Sub.any⟩
/-- A disk behind the writes of k sectors by the text, from n on. -/
def laysW (W : Wl) : DD → Nat → Nat → DD
  | D, _, 0 => D
  | D, n, k + 1 => laysW W (D.write (W.first + n) (secW W.st n)) (n + 1) k
/-- How many sectors a flush writes. -/
def flushN (W : Wl) : Nat := (W.st.length + 255) / 256 - W.dur / 256
abbrev flushD (W : Wl) (D : DD) : DD := (laysW W D (W.dur / 256) (flushN W)).sync
abbrev Wl.flushed (W : Wl) : Wl := { W with dur := W.st.length }
theorem quo256i (m : Nat) (h : m < 2 ^ 62) : IntKind.i64.wrap ((m : Int).tdiv 256) = ((m / 256 : Nat) : Int) := by
  have : (m : Int).tdiv 256 = ((m / 256 : Nat) : Int) := rfl
  rw [this]; exact wr64 (by omega) (by omega)

set_option maxRecDepth 100000 in
theorem Wl.durableB (B : Base) (g b : Nat) (W : Wl) (p : Option Addr) (c : Nat) (h : W.dur < 2 ^ 40) : Fn Tryd.prog B 30 #[.pointer (some ⟨g, 0, none⟩)] [wlB g b W p c] (fun u l => u = .int .i64 W.dur ∧ l = [wlB g b W p c]) := by
  refine Fn.enter1 7 Tryd.func30 rfl rfl (Nat.le_of_ble_eq_true rfl) (fun F => ?_)
  try simp only [List.cons_append, List.nil_append]
  refine T.seq ?_
  refine T.region ?_
  refine LW.q rfl (Qt.assign rfl) ?_
  refine LW.done ?_
  refine T.seq ?_
  refine T.region ?_
  refine LW.q rfl (Qt.move rfl) ?_
  refine LW.q rfl (Qt.nilCheck rfl) ?_
  refine LW.q rfl (Qt.fieldAddr (off := 5) (by kernel_rfl) rfl) ?_
  first | refine LW.q rfl (Qt.load (by kernel_rfl) rfl rfl) ?_ | refine LW.q rfl (Qt.load (by kernel_rfl) rfl (map_at _ _ _ (by omega))) ?_ | refine LW.q rfl (Qt.load (by kernel_rfl) rfl (flat_cell0 _ _ _ (by intros; rfl) _ (by omega) (by rfl))) ?_ | refine LW.q rfl (Qt.load (by kernel_rfl) rfl (flat_cell _ _ _ (by intros; rfl) _ _ (by omega) (by rfl))) ?_ | refine LW.q rfl (Qt.load (by kernel_rfl) rfl (bytes_at _ _ (by omega))) ?_
  refine LW.q rfl (Qt.assign rfl) ?_
  refine LW.done ?_
  refine T.ret ?_
  exact ⟨.inl rfl, _, _, res [_] rfl ⟨rvT rfl, trivial⟩, ⟨rfl, rfl⟩, Sub.any⟩
set_option maxRecDepth 100000 in
theorem Wl.endB (B : Base) (g b : Nat) (W : Wl) (p : Option Addr) (c : Nat) (h : W.st.length < 2 ^ 40) : Fn Tryd.prog B 49 #[.pointer (some ⟨g, 0, none⟩)] [wlB g b W p c] (fun u l => u = .int .i64 W.st.length ∧ l = [wlB g b W p c]) := by
  refine Fn.enter1 8 Tryd.func49 rfl rfl (Nat.le_of_ble_eq_true rfl) (fun F => ?_)
  try simp only [List.cons_append, List.nil_append]
  refine T.seq ?_
  refine T.region ?_
  refine LW.q rfl (Qt.assign rfl) ?_
  refine LW.done ?_
  refine T.seq ?_
  refine T.region ?_
  refine LW.q rfl (Qt.move rfl) ?_
  refine LW.q rfl (Qt.nilCheck rfl) ?_
  refine LW.q rfl (Qt.fieldAddr (off := 3) (by kernel_rfl) rfl) ?_
  first | refine LW.q rfl (Qt.load (by kernel_rfl) rfl rfl) ?_ | refine LW.q rfl (Qt.load (by kernel_rfl) rfl (map_at _ _ _ (by omega))) ?_ | refine LW.q rfl (Qt.load (by kernel_rfl) rfl (flat_cell0 _ _ _ (by intros; rfl) _ (by omega) (by rfl))) ?_ | refine LW.q rfl (Qt.load (by kernel_rfl) rfl (flat_cell _ _ _ (by intros; rfl) _ _ (by omega) (by rfl))) ?_ | refine LW.q rfl (Qt.load (by kernel_rfl) rfl (bytes_at _ _ (by omega))) ?_
  refine LW.q rfl (Qt.len (e := 5) (sz := 1) (by kernel_rfl) rfl) ?_
  refine LW.q rfl (Qt.assign rfl) ?_
  refine LW.done ?_
  refine T.ret ?_
  exact ⟨.inl rfl, _, _, res [_] rfl ⟨rvT rfl, trivial⟩, ⟨rfl, rfl⟩, Sub.any⟩
set_option maxHeartbeats 2000000 in
set_option maxRecDepth 100000 in
theorem Wl.force_no (B : Base) (g b : Nat) (W : Wl) (p : Option Addr) (c : Nat) (mark : Int) (hd : W.dur < 2 ^ 40) (h : mark ≤ W.dur ∨ W.dur = W.st.length) : Fn Tryd.prog B 105 #[.pointer (some ⟨g, 0, none⟩), .int .i64 mark] [wlB g b W p c] (fun u l => u = .tuple #[] ∧ l = [wlB g b W p c]) := by
  refine Fn.enter2 53 Tryd.func105 rfl rfl (Nat.le_of_ble_eq_true rfl) (fun F => ?_)
  try simp only [List.cons_append, List.nil_append]
  refine T.seq ?_
  refine T.seq ?_
  refine T.drawAll 16 (by kernel_rfl) (Nat.le_of_ble_eq_true rfl) (by kernel_rfl) ?_
  refine RW.q 0 rfl rfl (by kernel_rfl) (Sub.refl _) (Qt.move rfl) ?_
  refine RW.q 1 rfl rfl (by kernel_rfl) (Sub.refl _) (Qt.move rfl) ?_
  refine RW.one 2 (by kernel_rfl) ?_
  refine RO.e rfl rfl (Ef.call (Wl.durableB B g b W p c hd) Tryd.func30 rfl rfl rfl ?_)
  rintro _ _ ⟨rfl, rfl⟩
  try simp only [List.cons_append, List.nil_append]
  refine ⟨Sub.any, ?_⟩
  refine RW.q 3 rfl rfl (by kernel_rfl) (Sub.refl _) (Qt.leq rfl rfl) ?_
  refine RW.q 4 rfl rfl (by kernel_rfl) (Sub.refl _) (Qt.move rfl) ?_
  refine RW.split (t := 9) rfl (fun h1 => ?_) (fun h1 => ?_)
  · skip
    try replace h1 := of_decide_eq_true h1
    refine RW.s 5 rfl rfl (by kernel_rfl) (Sub.refl _) ?_
    refine RW.s 6 rfl rfl (by kernel_rfl) (Sub.refl _) ?_
    refine RW.s 7 rfl rfl (by kernel_rfl) (Sub.refl _) ?_
    refine RW.s 8 rfl rfl (by kernel_rfl) (Sub.refl _) ?_
    refine RW.s 9 rfl rfl (by kernel_rfl) (Sub.refl _) ?_
    refine RW.s 10 rfl rfl (by kernel_rfl) (Sub.refl _) ?_
    refine RW.s 11 rfl rfl (by kernel_rfl) (Sub.refl _) ?_
    refine RW.s 12 rfl rfl (by kernel_rfl) (Sub.refl _) ?_
    refine RW.s 13 rfl rfl (by kernel_rfl) (Sub.refl _) ?_
    refine RW.s 14 rfl rfl (by kernel_rfl) (Sub.refl _) ?_
    refine RW.q 15 rfl rfl (by kernel_rfl) (Sub.refl _) (Qt.pick rfl rfl) ?_
    refine RW.done (by rfl) ?_
    simp only [List.drop_succ_cons, List.drop_zero, List.drop_nil]
    refine LW.done ?_
    first | refine T.condT rfl ?_ | refine T.condPT rfl (by omega) ?_ | refine T.condBT rfl (by omega) ?_
    refine T.ret ?_
    exact ⟨.inl rfl, _, _, res [] rfl trivial, ⟨rfl, rfl⟩, Sub.any⟩
  · skip
    try replace h1 := of_decide_eq_false h1
    refine RW.q 5 rfl rfl (by kernel_rfl) (Sub.refl _) (Qt.move rfl) ?_
    refine RW.q 6 rfl rfl (by kernel_rfl) (Sub.refl _) (Qt.nilCheck rfl) ?_
    refine RW.q 7 rfl rfl (by kernel_rfl) (Sub.refl _) (Qt.fieldAddr (off := 5) (by kernel_rfl) rfl) ?_
    first | refine RW.q 8 rfl rfl (by kernel_rfl) (Sub.refl _) (Qt.load (by kernel_rfl) rfl rfl) ?_ | refine RW.q 8 rfl rfl (by kernel_rfl) (Sub.refl _) (Qt.load (by kernel_rfl) rfl (map_at _ _ _ (by omega))) ?_ | refine RW.q 8 rfl rfl (by kernel_rfl) (Sub.refl _) (Qt.load (by kernel_rfl) rfl (flat_cell0 _ _ _ (by intros; rfl) _ (by omega) (by rfl))) ?_ | refine RW.q 8 rfl rfl (by kernel_rfl) (Sub.refl _) (Qt.load (by kernel_rfl) rfl (flat_cell _ _ _ (by intros; rfl) _ _ (by omega) (by rfl))) ?_ | refine RW.q 8 rfl rfl (by kernel_rfl) (Sub.refl _) (Qt.load (by kernel_rfl) rfl (bytes_at _ _ (by omega))) ?_
    refine RW.q 9 rfl rfl (by kernel_rfl) (Sub.refl _) (Qt.move rfl) ?_
    refine RW.q 10 rfl rfl (by kernel_rfl) (Sub.refl _) (Qt.nilCheck rfl) ?_
    refine RW.q 11 rfl rfl (by kernel_rfl) (Sub.refl _) (Qt.fieldAddr (off := 3) (by kernel_rfl) rfl) ?_
    first | refine RW.q 12 rfl rfl (by kernel_rfl) (Sub.refl _) (Qt.load (by kernel_rfl) rfl rfl) ?_ | refine RW.q 12 rfl rfl (by kernel_rfl) (Sub.refl _) (Qt.load (by kernel_rfl) rfl (map_at _ _ _ (by omega))) ?_ | refine RW.q 12 rfl rfl (by kernel_rfl) (Sub.refl _) (Qt.load (by kernel_rfl) rfl (flat_cell0 _ _ _ (by intros; rfl) _ (by omega) (by rfl))) ?_ | refine RW.q 12 rfl rfl (by kernel_rfl) (Sub.refl _) (Qt.load (by kernel_rfl) rfl (flat_cell _ _ _ (by intros; rfl) _ _ (by omega) (by rfl))) ?_ | refine RW.q 12 rfl rfl (by kernel_rfl) (Sub.refl _) (Qt.load (by kernel_rfl) rfl (bytes_at _ _ (by omega))) ?_
    refine RW.q 13 rfl rfl (by kernel_rfl) (Sub.refl _) (Qt.len (e := 5) (sz := 1) (by kernel_rfl) rfl) ?_
    refine RW.q 14 rfl rfl (by kernel_rfl) (Sub.refl _) (Qt.eql rfl rfl) ?_
    refine RW.q 15 rfl rfl (by kernel_rfl) (Sub.refl _) (Qt.pick rfl rfl) ?_
    refine RW.done (by rfl) ?_
    simp only [List.drop_succ_cons, List.drop_zero, List.drop_nil]
    refine LW.done ?_
    first | refine T.condT rfl ?_ | refine T.condPT rfl (by omega) ?_ | refine T.condBT rfl (by omega) ?_
    refine T.ret ?_
    exact ⟨.inl rfl, _, _, res [] rfl trivial, ⟨rfl, rfl⟩, Sub.any⟩
set_option maxHeartbeats 2000000 in
set_option maxRecDepth 100000 in
theorem Wl.force (B : Base) (g b : Nat) (W : Wl) (p : Option Addr) (c : Nat) (hp : 0 < W.st.length → ∃ g, p = some ⟨g, 0, none⟩) (hc : W.st.length ≤ c) (D : DD) (mark : Int) (hD : W.first + W.count ≤ D.secs.length) (hs : D.secs.length ≤ 4096) (hst : W.st.length ≤ W.count * 256) (hdur : W.dur ≤ W.st.length) (hroom : D.pend.length + 4096 < 2 ^ 32) (h1 : W.dur < mark) (h2 : W.dur ≠ W.st.length) :
    Fn Tryd.prog B 105 #[.pointer (some ⟨g, 0, none⟩), .int .i64 mark] [wlB g b W p c, rB (.slice p W.st.length c) W.st.length W.st, dskA b D] (fun u l => u = .tuple #[] ∧ l = [wlB g b W.flushed p c, rB (.slice p W.st.length c) W.st.length W.st, dskA b (flushD W D)]) := by
  refine Fn.enter2 53 Tryd.func105 rfl rfl (Nat.le_of_ble_eq_true rfl) (fun F => ?_)
  try simp only [List.cons_append, List.nil_append]
  refine T.seq ?_
  refine T.seq ?_
  refine T.drawAll 16 (by kernel_rfl) (Nat.le_of_ble_eq_true rfl) (by kernel_rfl) ?_
  refine RW.q 0 rfl rfl (by kernel_rfl) (Sub.refl _) (Qt.move rfl) ?_
  refine RW.q 1 rfl rfl (by kernel_rfl) (Sub.refl _) (Qt.move rfl) ?_
  refine RW.one 2 (by kernel_rfl) ?_
  refine RO.e rfl rfl (Ef.call (Wl.durableB B g b W p c (by omega)) Tryd.func30 rfl rfl rfl ?_)
  rintro _ _ ⟨rfl, rfl⟩
  try simp only [List.cons_append, List.nil_append]
  refine ⟨Sub.any, ?_⟩
  refine RW.q 3 rfl rfl (by kernel_rfl) (Sub.refl _) (Qt.leq rfl rfl) ?_
  refine RW.q 4 rfl rfl (by kernel_rfl) (Sub.refl _) (Qt.move rfl) ?_
  first | refine RW.gF (t := 9) rfl rfl ?_ | refine RW.gF (t := 9) rfl (decide_eq_false (by omega)) ?_ | refine RW.gF (t := 9) rfl (by omega) ?_
  refine RW.q 5 rfl rfl (by kernel_rfl) (Sub.refl _) (Qt.move rfl) ?_
  refine RW.q 6 rfl rfl (by kernel_rfl) (Sub.refl _) (Qt.nilCheck rfl) ?_
  refine RW.q 7 rfl rfl (by kernel_rfl) (Sub.refl _) (Qt.fieldAddr (off := 5) (by kernel_rfl) rfl) ?_
  first | refine RW.q 8 rfl rfl (by kernel_rfl) (Sub.refl _) (Qt.load (by kernel_rfl) rfl rfl) ?_ | refine RW.q 8 rfl rfl (by kernel_rfl) (Sub.refl _) (Qt.load (by kernel_rfl) rfl (map_at _ _ _ (by omega))) ?_ | refine RW.q 8 rfl rfl (by kernel_rfl) (Sub.refl _) (Qt.load (by kernel_rfl) rfl (flat_cell0 _ _ _ (by intros; rfl) _ (by omega) (by rfl))) ?_ | refine RW.q 8 rfl rfl (by kernel_rfl) (Sub.refl _) (Qt.load (by kernel_rfl) rfl (flat_cell _ _ _ (by intros; rfl) _ _ (by omega) (by rfl))) ?_ | refine RW.q 8 rfl rfl (by kernel_rfl) (Sub.refl _) (Qt.load (by kernel_rfl) rfl (bytes_at _ _ (by omega))) ?_
  refine RW.q 9 rfl rfl (by kernel_rfl) (Sub.refl _) (Qt.move rfl) ?_
  refine RW.q 10 rfl rfl (by kernel_rfl) (Sub.refl _) (Qt.nilCheck rfl) ?_
  refine RW.q 11 rfl rfl (by kernel_rfl) (Sub.refl _) (Qt.fieldAddr (off := 3) (by kernel_rfl) rfl) ?_
  first | refine RW.q 12 rfl rfl (by kernel_rfl) (Sub.refl _) (Qt.load (by kernel_rfl) rfl rfl) ?_ | refine RW.q 12 rfl rfl (by kernel_rfl) (Sub.refl _) (Qt.load (by kernel_rfl) rfl (map_at _ _ _ (by omega))) ?_ | refine RW.q 12 rfl rfl (by kernel_rfl) (Sub.refl _) (Qt.load (by kernel_rfl) rfl (flat_cell0 _ _ _ (by intros; rfl) _ (by omega) (by rfl))) ?_ | refine RW.q 12 rfl rfl (by kernel_rfl) (Sub.refl _) (Qt.load (by kernel_rfl) rfl (flat_cell _ _ _ (by intros; rfl) _ _ (by omega) (by rfl))) ?_ | refine RW.q 12 rfl rfl (by kernel_rfl) (Sub.refl _) (Qt.load (by kernel_rfl) rfl (bytes_at _ _ (by omega))) ?_
  refine RW.q 13 rfl rfl (by kernel_rfl) (Sub.refl _) (Qt.len (e := 5) (sz := 1) (by kernel_rfl) rfl) ?_
  refine RW.q 14 rfl rfl (by kernel_rfl) (Sub.refl _) (Qt.eql rfl rfl) ?_
  refine RW.q 15 rfl rfl (by kernel_rfl) (Sub.refl _) (Qt.pick rfl rfl) ?_
  refine RW.done (by rfl) ?_
  simp only [List.drop_succ_cons, List.drop_zero, List.drop_nil]
  refine LW.done ?_
  first | refine T.condF rfl ?_ | refine T.condPF rfl (by omega) ?_ | refine T.condBF rfl (by omega) ?_
  refine T.skip ?_
  refine T.seq ?_
  refine T.seq ?_
  refine T.region ?_
  refine LW.q rfl (Qt.move rfl) ?_
  refine LW.q rfl (Qt.nilCheck rfl) ?_
  refine LW.q rfl (Qt.fieldAddr (off := 5) (by kernel_rfl) rfl) ?_
  first | refine LW.q rfl (Qt.load (by kernel_rfl) rfl rfl) ?_ | refine LW.q rfl (Qt.load (by kernel_rfl) rfl (map_at _ _ _ (by omega))) ?_ | refine LW.q rfl (Qt.load (by kernel_rfl) rfl (flat_cell0 _ _ _ (by intros; rfl) _ (by omega) (by rfl))) ?_ | refine LW.q rfl (Qt.load (by kernel_rfl) rfl (flat_cell _ _ _ (by intros; rfl) _ _ (by omega) (by rfl))) ?_ | refine LW.q rfl (Qt.load (by kernel_rfl) rfl (bytes_at _ _ (by omega))) ?_
  refine LW.q rfl (Qt.quo rfl rfl (by omega) (quo256i W.dur (by omega))) ?_
  refine LW.q rfl (Qt.assign rfl) ?_
  refine LW.done ?_
  refine T.block ?_
  refine T.loop (fun mz fz lz => ∃ (f0 : Fr) (n : Nat) (D' : DD), (W.dur / 256 ≤ n ∧ n ≤ (W.st.length + 255) / 256 ∧ D'.secs.length = D.secs.length ∧ D'.pend.length + W.dur / 256 = D.pend.length + n ∧ laysW W D' n ((W.st.length + 255) / 256 - n) = laysW W D (W.dur / 256) (flushN W)) ∧ mz = (W.st.length + 255) / 256 - n ∧ fz = (upd (upd f0 0 (.pointer (some ⟨g, 0, none⟩))) 4 (.int .i64 n)) ∧ lz = wlB g b W p c :: rB (.slice p W.st.length c) W.st.length W.st :: dskA b D' :: F) ?_ ?_
  · refine ⟨_, _, ⟨_, W.dur / 256, D, ⟨Nat.le_refl _, by omega, rfl, rfl, rfl⟩, rfl, (updS rfl (updS rfl rfl)), rfl⟩, Sub.any⟩
  · skip
    rintro mz fz lz ⟨f0, n, D', ⟨hn1, hn2, hs', hpend, hlay⟩, hmz, rfl, rfl⟩
    subst mz
    try simp only [List.cons_append, List.nil_append]
    refine T.seq ?_
    refine T.seq ?_
    refine T.region ?_
    refine LW.q rfl (Qt.move rfl) ?_
    refine LW.q rfl (Qt.mul rfl rfl (wr64 (by omega) (by omega))) ?_
    refine LW.q rfl (Qt.move rfl) ?_
    refine LW.q rfl (Qt.nilCheck rfl) ?_
    refine LW.q rfl (Qt.fieldAddr (off := 3) (by kernel_rfl) rfl) ?_
    first | refine LW.q rfl (Qt.load (by kernel_rfl) rfl rfl) ?_ | refine LW.q rfl (Qt.load (by kernel_rfl) rfl (map_at _ _ _ (by omega))) ?_ | refine LW.q rfl (Qt.load (by kernel_rfl) rfl (flat_cell0 _ _ _ (by intros; rfl) _ (by omega) (by rfl))) ?_ | refine LW.q rfl (Qt.load (by kernel_rfl) rfl (flat_cell _ _ _ (by intros; rfl) _ _ (by omega) (by rfl))) ?_ | refine LW.q rfl (Qt.load (by kernel_rfl) rfl (bytes_at _ _ (by omega))) ?_
    refine LW.q rfl (Qt.len (e := 5) (sz := 1) (by kernel_rfl) rfl) ?_
    refine LW.q rfl (Qt.lss rfl rfl) ?_
    refine LW.done ?_
    refine T.condP rfl (fun hlt => ?_) (fun hlt => ?_)
    · skip
      refine T.skip ?_
      refine T.seq ?_
      refine T.block ?_
      refine T.region ?_
      refine LW.q rfl (Qt.move rfl) ?_
      refine LW.q rfl (Qt.move rfl) ?_
      refine LW.e rfl (Ef.call (Wl.lay B g b W p c hp hc D' n (by omega) (by omega) (by omega) (by omega) (by omega)) Tryd.func65 rfl rfl rfl ?_)
      rintro _ _ ⟨rfl, rfl⟩
      try simp only [List.cons_append, List.nil_append]
      refine LW.done ?_
      refine T.region ?_
      refine LW.q rfl (Qt.move rfl) ?_
      refine LW.q rfl (Qt.add rfl rfl (wr64 (by omega) (by omega))) ?_
      refine LW.q rfl (Qt.assign rfl) ?_
      refine LW.done ?_
      refine ⟨_, ?_, _, ⟨_, n + 1, D'.write (W.first + n) (secW W.st n), ⟨by omega, by omega, hs', by simp [DD.write]; omega, by rw [← hlay, show (W.st.length + 255) / 256 - n = ((W.st.length + 255) / 256 - (n + 1)) + 1 by omega]; rfl⟩, rfl, (updS rfl (updS rfl rfl)), rfl⟩, Sub.any⟩
      first | omega | (simp; omega)
    · skip
      obtain rfl : n = (W.st.length + 255) / 256 := by omega
      rw [Nat.sub_self] at hlay
      obtain rfl : D' = laysW W D (W.dur / 256) (flushN W) := hlay
      refine T.exit ?_
      refine T.seq ?_
      refine T.region ?_
      refine LW.q rfl (Qt.move rfl) ?_
      refine LW.q rfl (Qt.nilCheck rfl) ?_
      refine LW.q rfl (Qt.fieldAddr0 (by kernel_rfl) rfl) ?_
      refine LW.q rfl (Qt.fieldAddr0 (by kernel_rfl) rfl) ?_
      first | refine LW.q rfl (Qt.load (by kernel_rfl) rfl rfl) ?_ | refine LW.q rfl (Qt.load (by kernel_rfl) rfl (map_at _ _ _ (by omega))) ?_ | refine LW.q rfl (Qt.load (by kernel_rfl) rfl (flat_cell0 _ _ _ (by intros; rfl) _ (by omega) (by rfl))) ?_ | refine LW.q rfl (Qt.load (by kernel_rfl) rfl (flat_cell _ _ _ (by intros; rfl) _ _ (by omega) (by rfl))) ?_ | refine LW.q rfl (Qt.load (by kernel_rfl) rfl (bytes_at _ _ (by omega))) ?_
      refine LW.e rfl (Ef.call (Dk.syncF B b (laysW W D (W.dur / 256) (flushN W)) (by omega)) Tryd.func43 rfl rfl rfl ?_)
      rintro _ _ ⟨rfl, rfl⟩
      try simp only [List.cons_append, List.nil_append]
      refine LW.done ?_
      refine T.region ?_
      refine LW.q rfl (Qt.move rfl) ?_
      refine LW.q rfl (Qt.move rfl) ?_
      refine LW.q rfl (Qt.nilCheck rfl) ?_
      refine LW.q rfl (Qt.fieldAddr (off := 3) (by kernel_rfl) rfl) ?_
      first | refine LW.q rfl (Qt.load (by kernel_rfl) rfl rfl) ?_ | refine LW.q rfl (Qt.load (by kernel_rfl) rfl (map_at _ _ _ (by omega))) ?_ | refine LW.q rfl (Qt.load (by kernel_rfl) rfl (flat_cell0 _ _ _ (by intros; rfl) _ (by omega) (by rfl))) ?_ | refine LW.q rfl (Qt.load (by kernel_rfl) rfl (flat_cell _ _ _ (by intros; rfl) _ _ (by omega) (by rfl))) ?_ | refine LW.q rfl (Qt.load (by kernel_rfl) rfl (bytes_at _ _ (by omega))) ?_
      refine LW.q rfl (Qt.len (e := 5) (sz := 1) (by kernel_rfl) rfl) ?_
      refine LW.q rfl (Qt.nilCheck rfl) ?_
      refine LW.q rfl (Qt.fieldAddr (off := 5) (by kernel_rfl) rfl) ?_
      refine LW.e0 rfl (Ef.store1 (by kernel_rfl) rfl rfl rfl (by first | (simp; done) | (simp; omega)) ?_)
      try simp only [List.set_cons_zero, List.set_cons_succ]
      refine LW.done ?_
      exact ⟨.inr rfl, _, _, res [] rfl trivial, ⟨rfl, rfl⟩, Sub.any⟩
end Go.Proofs.YtegohgaccmkigaaDoor
