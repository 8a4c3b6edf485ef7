/- The document's log (annalsref05): Open. Conditions: sizes. -/
import Derived.Test.YtjjhbpjbngdlnaaDoorRlB
set_option linter.unusedSimpArgs false
set_option linter.unusedVariables false
namespace Go.Proofs.YtjjhbpjbngdlnaaDoor
open Go.RowKit

/-- What the document wipes, sector by sector. -/
def docWipe (W : Wl) (al : List UInt8) : DD → Nat → Nat → DD
  | D, _, 0 => D
  | D, n, k + 1 => docWipe W al (if (al.take ((n + 1) * 256)).drop (n * 256) = secW W.st n then D else D.write (W.first + n) (secW W.st n)) (n + 1) k
theorem docWipe_add (W : Wl) (al : List UInt8) : ∀ (k1 k2 n : Nat) (D : DD), docWipe W al D n (k1 + k2) = docWipe W al (docWipe W al D n k1) (n + k1) k2
  | 0, k2, n, D => by rw [Nat.zero_add]; rfl
  | k1 + 1, k2, n, D => by
    rw [show k1 + 1 + k2 = (k1 + k2) + 1 by omega, docWipe, docWipe_add W al k1 k2, docWipe, show n + 1 + k1 = n + (k1 + 1) by omega]
theorem docWipe_skip (W : Wl) (al : List UInt8) : ∀ (k n : Nat) (D : DD), (∀ j, n ≤ j → j < n + k → (al.take ((j + 1) * 256)).drop (j * 256) = secW W.st j) → docWipe W al D n k = D
  | 0, _, _, _ => rfl
  | k + 1, n, D, h => by
    rw [docWipe, if_pos (h n (by omega) (by omega))]
    exact docWipe_skip W al k (n + 1) D (fun j h1 h2 => h j (by omega) (by omega))
theorem docWipe_all (W : Wl) (al : List UInt8) : ∀ (k n : Nat) (D : DD), (∀ j, n ≤ j → j < n + k → (((al.take ((j + 1) * 256)).drop (max (j * 256) W.dur)).all (· == 0) = true ↔ (al.take ((j + 1) * 256)).drop (j * 256) = secW W.st j)) → docWipe W al D n k = wipeD W al D n k
  | 0, _, _, _ => rfl
  | k + 1, n, D, h => by
    have h0 := h n (by omega) (by omega)
    have hr := fun D => docWipe_all W al k (n + 1) D (fun j h1 h2 => h j (by omega) (by omega))
    rw [docWipe, wipeD, hr]
    by_cases e : (al.take ((n + 1) * 256)).drop (n * 256) = secW W.st n
    · rw [if_pos e, if_pos (h0.2 e)]
    · rw [if_neg e, if_neg (fun x => e (h0.1 x))]
set_option maxRecDepth 100000 in
theorem sec_split {al : List UInt8} {j k count : Nat} (hlen : al.length = count * 256) (hj : j < count) (hk3 : k < (j + 1) * 256) : (al.take ((j + 1) * 256)).drop (j * 256) = ((al.take k).drop (j * 256)) ++ ((al.take ((j + 1) * 256)).drop (max (j * 256) k)) := by
  obtain ⟨lo, hlo⟩ : ∃ lo, max (j * 256) k = lo := ⟨_, rfl⟩
  rw [hlo]
  by_cases hjk : j * 256 ≤ k
  · obtain rfl : k = lo := by omega
    have : al.take ((j + 1) * 256) = al.take k ++ (al.take ((j + 1) * 256)).drop k := by
      have := List.take_append_drop k (al.take ((j + 1) * 256))
      rw [List.take_take, Nat.min_eq_left (by omega)] at this
      exact this.symm
    conv => lhs; rw [this]
    rw [List.drop_append_of_le_length (by simp; omega)]
  · obtain rfl : j * 256 = lo := by omega
    rw [List.drop_of_length_le (l := al.take k) (by simp; omega), List.nil_append]
set_option maxRecDepth 100000 in
theorem docWipe_eq {first count k : Nat} {s : UInt32} {al : List UInt8} (D : DD) (hlen : al.length = count * 256) (hk : k ≤ count * 256) :
    docWipe ⟨first, count, al.take k, s, k⟩ al D 0 count = wipeD ⟨first, count, al.take k, s, k⟩ al D (k / 256) (count - k / 256) := by
  have hc := docWipe_add ⟨first, count, al.take k, s, k⟩ al (k / 256) (count - k / 256) 0 D
  rw [show k / 256 + (count - k / 256) = count by omega] at hc
  rw [hc, docWipe_skip _ _ (k / 256) 0 D (fun j h1 h2 => ?_), Nat.zero_add, docWipe_all]
  · intro j h1 h2
    have hj : j < count := by omega
    have hk3 : k < (j + 1) * 256 := by omega
    have e := sec_split hlen hj hk3
    show ((al.take ((j + 1) * 256)).drop (max (j * 256) k)).all (· == 0) = true ↔ _
    obtain ⟨Z, hZ⟩ : ∃ Z, (al.take ((j + 1) * 256)).drop (max (j * 256) k) = Z := ⟨_, rfl⟩
    have hx : ((al.take k).drop (j * 256)).take 256 = (al.take k).drop (j * 256) := List.take_of_length_le (by simp; omega)
    have hl : 256 - ((al.take k).drop (j * 256)).length = Z.length := by
      rw [← hZ]
      simp only [List.length_drop, List.length_take]
      omega
    rw [hZ] at e
    rw [e, hZ]
    show _ ↔ _ = secW (al.take k) j
    unfold secW
    rw [hx, hl]
    constructor
    · intro h
      rw [← all_zero h]
    · intro h
      have := List.append_cancel_left h
      rw [this]
      simp
  · show _ = secW (al.take k) j
    rw [secW_take (by omega)]
    unfold secW
    have e : ((al.drop (j * 256)).take 256).length = 256 := by simp; omega
    rw [e, List.drop_take, show (j + 1) * 256 - j * 256 = 256 by omega]
    simp

/-- What is left to scan, behind the records R. -/
def ScanG (al : List UInt8) (m k : Nat) (s : UInt32) (R : List (Nat × List UInt8)) : Prop := ∃ f, m < f + k ∧ scanW al (m + 1) 0 0 = ((scanW al f k s).1, (scanW al f k s).2.1, R ++ (scanW al f k s).2.2)
theorem ScanG.init (al : List UInt8) (m : Nat) : ScanG al m 0 0 [] := ⟨m + 1, by omega, rfl⟩
theorem ScanG.stop {al : List UInt8} {m k : Nat} {s : UInt32} {R : List (Nat × List UInt8)} (h : ScanG al m k s R) (ht : takeRec al k s = none) : scanW al (m + 1) 0 0 = (k, s, R) := by
  obtain ⟨f, _, e⟩ := h
  rw [e, scan_none ht, List.append_nil]
theorem ScanG.next {al : List UInt8} {m k nn : Nat} {s s' : UInt32} {R : List (Nat × List UInt8)} (h : ScanG al m k s R) (hk : k ≤ m) (ht : takeRec al k s = some (nn, s')) : ScanG al m (k + (8 + nn)) s' (R ++ [(k + (8 + nn), ((al.drop k).take (8 + nn)).drop 8)]) := by
  obtain ⟨f, hf, e⟩ := h
  cases f with
  | zero => omega
  | succ f =>
    refine ⟨f, by omega, ?_⟩
    rw [e, scanW, ht]
    simp
/-- The document takes a record just where the program does. -/
theorem docTake {al : List UInt8} {k nn first count dur : Nat} {s : UInt32} (hnn : (get64 ((al.drop k).take 4)).toNat = nn) (h8 : 8 ≤ al.length - k) (h0 : nn ≠ 0) (h1 : nn ≤ 1024) (h2 : nn ≤ al.length - k - 8) (hc : al.length = count * 256) :
    ∃ st s', addW ⟨first, count, al.take k, s, dur⟩ (((al.drop k).take (8 + nn)).drop 8) = (⟨first, count, st, s', dur⟩, ((k + (8 + nn) : Nat) : Int), 0) ∧ st.length = k + (8 + nn) ∧
      ((st = al.take (k + (8 + nn)) ∧ takeRec al k s = some (nn, s')) ∨ (st ≠ al.take (k + (8 + nn)) ∧ takeRec al k s = none)) := by
  obtain ⟨d, hd⟩ : ∃ d, ((al.drop k).take (8 + nn)).drop 8 = d := ⟨_, rfl⟩
  have hdl : d.length = nn := by rw [← hd]; simp; omega
  have hkl : (al.take k).length = k := by simp; omega
  have hb : (get64 ((al.drop k).take 4)) = UInt64.ofInt nn := by apply UInt64.toNat_inj.1; rw [hnn, len_u64 _ h1]
  have f1 : be (UInt64.ofInt nn) 4 = (al.drop k).take 4 := by
    have h4 : ((al.drop k).take 4).length = 4 := by simp; omega
    have := be_get64 (l := (al.drop k).take 4) (by omega)
    rw [h4, hb] at this
    exact this
  rw [hd]
  have hadd : addW ⟨first, count, al.take k, s, dur⟩ d = (⟨first, count, al.take k ++ recB s k d, sealW s k d, dur⟩, ((k + (8 + nn) : Nat) : Int), 0) := by
    unfold addW
    rw [if_neg (by omega), if_neg (by omega), if_neg (by show ¬ count * 256 < (al.take k).length + 8 + d.length; omega)]
    simp only [hkl, recB, List.append_assoc, hdl]
    congr 2
    omega
  refine ⟨_, _, hadd, by rw [List.length_append, length_recB]; omega, ?_⟩
  have hsp : (al.drop k).take (8 + nn) = (al.drop k).take 4 ++ (((al.drop k).take 8).drop 4 ++ d) := by
    rw [← hd]
    have g1 : ((al.drop k).take 8).drop 4 = ((al.drop k).drop 4).take 4 := by rw [List.drop_take]
    have g2 : ((al.drop k).take (8 + nn)).drop 8 = ((al.drop k).drop 8).take nn := by rw [List.drop_take]; congr 1; omega
    rw [g1, g2, show 8 + nn = 4 + (4 + nn) by omega, List.take_add, List.take_add, List.drop_drop, List.drop_drop, List.drop_drop]
  by_cases hs : sealW s k d = (get64 (((al.drop k).take 8).drop 4)).toUInt32
  · have ht := takeRec_yes (s := s) hnn h8 h0 h1 h2 (by rw [hd]; exact hs)
    rw [← hs] at ht
    refine .inl ⟨?_, ht⟩
    obtain ⟨d', e0, _, _, _, e4, _⟩ := take_back ht
    rw [hd] at e0
    subst e0
    rw [List.take_add, e4]
  · refine .inr ⟨fun h => hs ?_, takeRec_no hnn (.inr (.inr (.inr (by rw [hd]; exact hs))))⟩
    rw [List.take_add] at h
    have h3 := List.append_cancel_left h
    rw [hsp, recB, hdl, f1, List.append_assoc] at h3
    have h4 := List.append_cancel_left h3
    have h5 : be (sealW s k d).toUInt64 4 = ((al.drop k).take 8).drop 4 := (List.append_inj h4 (by rw [length_be]; simp; omega)).1
    rw [← h5, u32_back]

/-- The document's records. -/
abbrev drecC (x : Nat × List UInt8) : List Value := [.int .i64 x.1, strW x.2]
abbrev drecR (q : Option Addr) (n c : Nat) (R : List (Nat × List UInt8)) : Assn := row (.slice q n c) 123 2 n (R.flatMap drecC)
theorem Rl.elemR : ElemOk Tryd.prog 69 123 2 24 := .mk' (.agg #[.int .i64 0, .string ⟨#[]⟩]) Tryd.underlying69 (by kernel_rfl) rfl (by omega)

set_option maxHeartbeats 1000000 in
set_option maxRecDepth 100000 in
theorem Rl.open_no (B : Base) (p q : Option Addr) (a c N m : Nat) (first count : Int) (hN : N ≤ 4096) (hf : -(2 ^ 63) ≤ first ∧ first < 2 ^ 63) (hcn : -(2 ^ 63) ≤ count ∧ count < 2 ^ 63) (h : first < 0 ∨ count < 1 ∨ (N : Int) < count ∨ (N : Int) - count < first) :
    Fn Tryd.prog B 29 #[.agg #[.slice p N a, .slice q m c], .int .i64 first, .int .i64 count] [] (fun v l => v = .tuple #[.agg #[.slice p N a, .slice q m c], .agg #[.string ⟨#[]⟩, .int .u32 0, .int .i64 0, .int .i64 0, .int .i64 0], .slice none 0 0, .int .i64 1] ∧ l = []) := by
  refine Fn.enter3 155 Tryd.func29 rfl rfl (Nat.le_of_ble_eq_true rfl) (fun F => ?_)
  try simp only [List.cons_append, List.nil_append]
  refine T.seq ?_
  refine T.region ?_
  refine LW.e rfl (Ef.box [_, _] rfl rfl ?_)
  intro g3
  refine LW.e rfl (Ef.alloc [.slice none 0 0, .slice none 0 0] (by unfold zeroB; kernel_rfl) ?_)
  intro g6
  refine LW.e rfl (Ef.alloc [.string .empty, .int .u32 0, .int .i64 0, .int .i64 0, .int .i64 0] (by unfold zeroB; kernel_rfl) ?_)
  intro g7
  refine LW.q rfl (Qt.assign rfl) ?_
  refine LW.q rfl (Qt.assign rfl) ?_
  refine LW.done ?_
  refine T.seq ?_
  refine T.seq ?_
  refine T.region ?_
  refine LW.q rfl (Qt.move rfl) ?_
  refine LW.q rfl (Qt.lss rfl rfl) ?_
  refine LW.q rfl (Qt.move rfl) ?_
  refine LW.split (t := 23) rfl (fun h1 => ?_) (fun h1 => ?_)
  · skip
    try replace h1 := of_decide_eq_true h1
    refine LW.s rfl ?_
    refine LW.s rfl ?_
    refine LW.q rfl (Qt.pick rfl rfl) ?_
    refine LW.q rfl (Qt.move rfl) ?_
    first | refine LW.gT (t := 27) rfl rfl ?_ | refine LW.gT (t := 27) rfl (decide_eq_true (by omega)) ?_ | refine LW.gT (t := 27) rfl (by omega) ?_
    refine LW.s rfl ?_
    refine LW.s rfl ?_
    refine LW.s rfl ?_
    refine LW.s rfl ?_
    refine LW.s rfl ?_
    refine LW.q rfl (Qt.pick rfl rfl) ?_
    refine LW.q rfl (Qt.move rfl) ?_
    first | refine LW.gT (t := 34) rfl rfl ?_ | refine LW.gT (t := 34) rfl (decide_eq_true (by omega)) ?_ | refine LW.gT (t := 34) rfl (by omega) ?_
    refine LW.s rfl ?_
    refine LW.s rfl ?_
    refine LW.s rfl ?_
    refine LW.s rfl ?_
    refine LW.s rfl ?_
    refine LW.s rfl ?_
    refine LW.s rfl ?_
    refine LW.q rfl (Qt.pick rfl rfl) ?_
    refine LW.done ?_
    first | refine T.condT rfl ?_ | refine T.condPT rfl (by omega) ?_ | refine T.condBT rfl (by omega) ?_
    refine T.seq ?_
    refine T.region ?_
    first | refine LW.q rfl (Qt.loadAgg [_, _] (by kernel_rfl) rfl ⟨rfl, rfl, trivial⟩) ?_ | refine LW.q rfl (Qt.loadAgg [_, _] (by kernel_rfl) rfl (by exact rdl_flat _ _ _ (by intros; rfl) _ (by omega))) ?_
    refine LW.q rfl (Qt.build [(0, 1), (1, 1), (2, 1), (3, 1), (4, 1)] [.string .empty, .int .u32 0, .int .i64 0, .int .i64 0, .int .i64 0] [_, _, _, _, _] [] (by kernel_rfl) (by unfold zeroB; kernel_rfl) rfl rfl) ?_
    refine LW.e0 rfl (Ef.store [_, _] (by kernel_rfl) rfl rfl rfl rfl (by simp) ?_)
    try simp only [splice, List.length_cons, List.length_nil, List.drop_succ_cons, List.cons_append, List.take_succ_cons, List.take_zero, List.drop_zero, List.nil_append, List.append_nil]
    refine LW.e0 rfl (Ef.store [_, _, _, _, _] (by kernel_rfl) rfl rfl rfl rfl (by simp) ?_)
    try simp only [splice, List.length_cons, List.length_nil, List.drop_succ_cons, List.cons_append, List.take_succ_cons, List.take_zero, List.drop_zero, List.nil_append, List.append_nil]
    refine LW.q rfl (Qt.assign rfl) ?_
    refine LW.q rfl (Qt.assign rfl) ?_
    refine LW.done ?_
    refine T.ret ?_
    exact ⟨.inl rfl, _, _, res [_, _, _, _] rfl ⟨rvA [_, _] (by kernel_rfl) rfl ⟨rfl, rfl, trivial⟩, rvA [_, _, _, _, _] (by kernel_rfl) rfl ⟨rfl, rfl, rfl, rfl, rfl, trivial⟩, rvT rfl, rvT rfl, trivial⟩, ⟨rfl, rfl⟩, Sub.any⟩
  · skip
    try replace h1 := of_decide_eq_false h1
    refine LW.q rfl (Qt.move rfl) ?_
    refine LW.q rfl (Qt.lss rfl rfl) ?_
    refine LW.q rfl (Qt.pick rfl rfl) ?_
    refine LW.q rfl (Qt.move rfl) ?_
    refine LW.split (t := 27) rfl (fun h2 => ?_) (fun h2 => ?_)
    · skip
      try replace h2 := of_decide_eq_true h2
      refine LW.s rfl ?_
      refine LW.s rfl ?_
      refine LW.s rfl ?_
      refine LW.s rfl ?_
      refine LW.s rfl ?_
      refine LW.q rfl (Qt.pick rfl rfl) ?_
      refine LW.q rfl (Qt.move rfl) ?_
      first | refine LW.gT (t := 34) rfl rfl ?_ | refine LW.gT (t := 34) rfl (decide_eq_true (by omega)) ?_ | refine LW.gT (t := 34) rfl (by omega) ?_
      refine LW.s rfl ?_
      refine LW.s rfl ?_
      refine LW.s rfl ?_
      refine LW.s rfl ?_
      refine LW.s rfl ?_
      refine LW.s rfl ?_
      refine LW.s rfl ?_
      refine LW.q rfl (Qt.pick rfl rfl) ?_
      refine LW.done ?_
      first | refine T.condT rfl ?_ | refine T.condPT rfl (by omega) ?_ | refine T.condBT rfl (by omega) ?_
      refine T.seq ?_
      refine T.region ?_
      first | refine LW.q rfl (Qt.loadAgg [_, _] (by kernel_rfl) rfl ⟨rfl, rfl, trivial⟩) ?_ | refine LW.q rfl (Qt.loadAgg [_, _] (by kernel_rfl) rfl (by exact rdl_flat _ _ _ (by intros; rfl) _ (by omega))) ?_
      refine LW.q rfl (Qt.build [(0, 1), (1, 1), (2, 1), (3, 1), (4, 1)] [.string .empty, .int .u32 0, .int .i64 0, .int .i64 0, .int .i64 0] [_, _, _, _, _] [] (by kernel_rfl) (by unfold zeroB; kernel_rfl) rfl rfl) ?_
      refine LW.e0 rfl (Ef.store [_, _] (by kernel_rfl) rfl rfl rfl rfl (by simp) ?_)
      try simp only [splice, List.length_cons, List.length_nil, List.drop_succ_cons, List.cons_append, List.take_succ_cons, List.take_zero, List.drop_zero, List.nil_append, List.append_nil]
      refine LW.e0 rfl (Ef.store [_, _, _, _, _] (by kernel_rfl) rfl rfl rfl rfl (by simp) ?_)
      try simp only [splice, List.length_cons, List.length_nil, List.drop_succ_cons, List.cons_append, List.take_succ_cons, List.take_zero, List.drop_zero, List.nil_append, List.append_nil]
      refine LW.q rfl (Qt.assign rfl) ?_
      refine LW.q rfl (Qt.assign rfl) ?_
      refine LW.done ?_
      refine T.ret ?_
      exact ⟨.inl rfl, _, _, res [_, _, _, _] rfl ⟨rvA [_, _] (by kernel_rfl) rfl ⟨rfl, rfl, trivial⟩, rvA [_, _, _, _, _] (by kernel_rfl) rfl ⟨rfl, rfl, rfl, rfl, rfl, trivial⟩, rvT rfl, rvT rfl, trivial⟩, ⟨rfl, rfl⟩, Sub.any⟩
    · skip
      try replace h2 := of_decide_eq_false h2
      refine LW.q rfl (Qt.move rfl) ?_
      refine LW.q rfl (Qt.fieldAddr0 (by kernel_rfl) rfl) ?_
      first | refine LW.q rfl (Qt.load (by kernel_rfl) rfl rfl) ?_ | refine LW.q rfl (Qt.load (by kernel_rfl) rfl (map_at _ _ _ (by omega))) ?_ | refine LW.q rfl (Qt.load (by kernel_rfl) rfl (flat_cell0 _ _ _ (by intros; rfl) _ (by omega) (by rfl))) ?_ | refine LW.q rfl (Qt.load (by kernel_rfl) rfl (flat_cell _ _ _ (by intros; rfl) _ _ (by omega) (by rfl))) ?_ | refine LW.q rfl (Qt.load (by kernel_rfl) rfl (bytes_at _ _ (by omega))) ?_
      refine LW.q rfl (Qt.len (e := 9) (sz := 1) (by kernel_rfl) rfl) ?_
      refine LW.q rfl (Qt.gtr rfl rfl) ?_
      refine LW.q rfl (Qt.pick rfl rfl) ?_
      refine LW.q rfl (Qt.move rfl) ?_
      refine LW.split (t := 34) rfl (fun h3 => ?_) (fun h3 => ?_)
      · skip
        try replace h3 := of_decide_eq_true h3
        refine LW.s rfl ?_
        refine LW.s rfl ?_
        refine LW.s rfl ?_
        refine LW.s rfl ?_
        refine LW.s rfl ?_
        refine LW.s rfl ?_
        refine LW.s rfl ?_
        refine LW.q rfl (Qt.pick rfl rfl) ?_
        refine LW.done ?_
        first | refine T.condT rfl ?_ | refine T.condPT rfl (by omega) ?_ | refine T.condBT rfl (by omega) ?_
        refine T.seq ?_
        refine T.region ?_
        first | refine LW.q rfl (Qt.loadAgg [_, _] (by kernel_rfl) rfl ⟨rfl, rfl, trivial⟩) ?_ | refine LW.q rfl (Qt.loadAgg [_, _] (by kernel_rfl) rfl (by exact rdl_flat _ _ _ (by intros; rfl) _ (by omega))) ?_
        refine LW.q rfl (Qt.build [(0, 1), (1, 1), (2, 1), (3, 1), (4, 1)] [.string .empty, .int .u32 0, .int .i64 0, .int .i64 0, .int .i64 0] [_, _, _, _, _] [] (by kernel_rfl) (by unfold zeroB; kernel_rfl) rfl rfl) ?_
        refine LW.e0 rfl (Ef.store [_, _] (by kernel_rfl) rfl rfl rfl rfl (by simp) ?_)
        try simp only [splice, List.length_cons, List.length_nil, List.drop_succ_cons, List.cons_append, List.take_succ_cons, List.take_zero, List.drop_zero, List.nil_append, List.append_nil]
        refine LW.e0 rfl (Ef.store [_, _, _, _, _] (by kernel_rfl) rfl rfl rfl rfl (by simp) ?_)
        try simp only [splice, List.length_cons, List.length_nil, List.drop_succ_cons, List.cons_append, List.take_succ_cons, List.take_zero, List.drop_zero, List.nil_append, List.append_nil]
        refine LW.q rfl (Qt.assign rfl) ?_
        refine LW.q rfl (Qt.assign rfl) ?_
        refine LW.done ?_
        refine T.ret ?_
        exact ⟨.inl rfl, _, _, res [_, _, _, _] rfl ⟨rvA [_, _] (by kernel_rfl) rfl ⟨rfl, rfl, trivial⟩, rvA [_, _, _, _, _] (by kernel_rfl) rfl ⟨rfl, rfl, rfl, rfl, rfl, trivial⟩, rvT rfl, rvT rfl, trivial⟩, ⟨rfl, rfl⟩, Sub.any⟩
      · skip
        try replace h3 := of_decide_eq_false h3
        refine LW.q rfl (Qt.move rfl) ?_
        refine LW.q rfl (Qt.fieldAddr0 (by kernel_rfl) rfl) ?_
        first | refine LW.q rfl (Qt.load (by kernel_rfl) rfl rfl) ?_ | refine LW.q rfl (Qt.load (by kernel_rfl) rfl (map_at _ _ _ (by omega))) ?_ | refine LW.q rfl (Qt.load (by kernel_rfl) rfl (flat_cell0 _ _ _ (by intros; rfl) _ (by omega) (by rfl))) ?_ | refine LW.q rfl (Qt.load (by kernel_rfl) rfl (flat_cell _ _ _ (by intros; rfl) _ _ (by omega) (by rfl))) ?_ | refine LW.q rfl (Qt.load (by kernel_rfl) rfl (bytes_at _ _ (by omega))) ?_
        refine LW.q rfl (Qt.len (e := 9) (sz := 1) (by kernel_rfl) rfl) ?_
        refine LW.q rfl (Qt.move rfl) ?_
        refine LW.q rfl (Qt.sub rfl rfl (wr64 (by omega) (by omega))) ?_
        refine LW.q rfl (Qt.gtr rfl rfl) ?_
        refine LW.q rfl (Qt.pick rfl rfl) ?_
        refine LW.done ?_
        first | refine T.condT rfl ?_ | refine T.condPT rfl (by omega) ?_ | refine T.condBT rfl (by omega) ?_
        refine T.seq ?_
        refine T.region ?_
        first | refine LW.q rfl (Qt.loadAgg [_, _] (by kernel_rfl) rfl ⟨rfl, rfl, trivial⟩) ?_ | refine LW.q rfl (Qt.loadAgg [_, _] (by kernel_rfl) rfl (by exact rdl_flat _ _ _ (by intros; rfl) _ (by omega))) ?_
        refine LW.q rfl (Qt.build [(0, 1), (1, 1), (2, 1), (3, 1), (4, 1)] [.string .empty, .int .u32 0, .int .i64 0, .int .i64 0, .int .i64 0] [_, _, _, _, _] [] (by kernel_rfl) (by unfold zeroB; kernel_rfl) rfl rfl) ?_
        refine LW.e0 rfl (Ef.store [_, _] (by kernel_rfl) rfl rfl rfl rfl (by simp) ?_)
        try simp only [splice, List.length_cons, List.length_nil, List.drop_succ_cons, List.cons_append, List.take_succ_cons, List.take_zero, List.drop_zero, List.nil_append, List.append_nil]
        refine LW.e0 rfl (Ef.store [_, _, _, _, _] (by kernel_rfl) rfl rfl rfl rfl (by simp) ?_)
        try simp only [splice, List.length_cons, List.length_nil, List.drop_succ_cons, List.cons_append, List.take_succ_cons, List.take_zero, List.drop_zero, List.nil_append, List.append_nil]
        refine LW.q rfl (Qt.assign rfl) ?_
        refine LW.q rfl (Qt.assign rfl) ?_
        refine LW.done ?_
        refine T.ret ?_
        exact ⟨.inl rfl, _, _, res [_, _, _, _] rfl ⟨rvA [_, _] (by kernel_rfl) rfl ⟨rfl, rfl, trivial⟩, rvA [_, _, _, _, _] (by kernel_rfl) rfl ⟨rfl, rfl, rfl, rfl, rfl, trivial⟩, rvT rfl, rvT rfl, trivial⟩, ⟨rfl, rfl⟩, Sub.any⟩
end Go.Proofs.YtjjhbpjbngdlnaaDoor
