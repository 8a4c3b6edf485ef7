/- The texts BtA RiC RiD, one behind the other: what the law leans on. Conditions: as each theorem says. -/
import Derived.Test.YtefognjcognknaaZRiBasf4
import Derived.Sort.Walk0
/- Strings compared; slices.BinarySearch among strings; btree's find and leaf. Conditions: sizes; that the keys rise. -/
set_option linter.unusedSimpArgs false
set_option linter.unusedVariables false
namespace Go.Proofs.Ytefognjcognknaa
open Go.RowKit
abbrev Str := List UInt8
abbrev kT (s : Str) : Value := .string (strOf s)
abbrev sl (a b : Str) : Bool := Op.bytesLess a b
theorem sl_irrefl : ∀ a : Str, sl a a = false
  | [] => rfl
  | a :: x => by simp [sl, Op.bytesLess, sl_irrefl x]
theorem sl_trans : ∀ {a b c : Str}, sl a b = true → sl b c = true → sl a c = true
  | _, [], _, h, _ => by cases ‹Str› <;> simp [sl, Op.bytesLess] at h
  | [], _ :: _, [], _, h => by simp [sl, Op.bytesLess] at h
  | [], _ :: _, _ :: _, _, _ => rfl
  | _ :: _, _ :: _, [], _, h => by simp [sl, Op.bytesLess] at h
  | a :: x, b :: y, c :: z, h, k => by
    simp only [sl, Op.bytesLess, Bool.or_eq_true, Bool.and_eq_true, decide_eq_true_eq, beq_iff_eq] at h k ⊢
    rcases h with h | ⟨rfl, h⟩
    · rcases k with k | ⟨rfl, k⟩
      · exact .inl (UInt8.lt_trans h k)
      · exact .inl h
    · rcases k with k | ⟨rfl, k⟩
      · exact .inl k
      · exact .inr ⟨rfl, sl_trans h k⟩
theorem sl_tri : ∀ {a b : Str}, sl a b = false → sl b a = false → a = b
  | [], [], _, _ => rfl
  | [], _ :: _, h, _ => by simp [sl, Op.bytesLess] at h
  | _ :: _, [], _, h => by simp [sl, Op.bytesLess] at h
  | a :: x, b :: y, h, k => by
    simp only [sl, Op.bytesLess, Bool.or_eq_false_iff, Bool.and_eq_false_iff, decide_eq_false_iff_not, beq_eq_false_iff_ne, ne_eq] at h k
    obtain ⟨h1, h2⟩ := h
    obtain ⟨k1, k2⟩ := k
    have e : a = b := UInt8.le_antisymm (UInt8.not_lt.1 k1) (UInt8.not_lt.1 h1)
    subst e
    rcases h2 with h2 | h2
    · exact absurd rfl h2
    · rcases k2 with k2 | k2
      · exact absurd rfl k2
      · rw [sl_tri h2 k2]
theorem sl_asymm {a b : Str} (h : sl a b = true) : sl b a = false := by
  cases k : sl b a with
  | false => rfl
  | true => have := sl_trans h k; rw [sl_irrefl] at this; cases this
theorem one_kT {ks : List Str} : ∀ v ∈ ks.map kT, v.oneCell' = true := by
  intro v hv
  obtain ⟨s, _, rfl⟩ := List.mem_map.1 hv
  rfl
section
variable {P : Program} {B : Base} {n : Nat} {S l : List Assn} {f : Fr}
variable {d : Option Tmp} {ty : TypeId} {pos : String} {af : Array Edge} {gd : Option (Nat × Bool)}
theorem Qt.lssB {t t2 : TypeId} {x y : Operand} {a b : List UInt8} (hx : ev n f x = some (.string (strOf a))) (hy : ev n f y = some (.string (strOf b))) : Qt P B n S ⟨d, .binOp .lss t x y t2, ty, pos, af, gd⟩ f (.bool (sl a b)) := ⟨fun w _ => by
  simp [execOp, evu_eq hx, evu_eq hy, eqGuard, Go.binOp, Op.stringOp, strOf_toList]⟩
end
theorem Bs.nan1 (B : Base) (a : Str) : Fn Try.prog B 106 #[kT a] [] (fun v l => v = .bool false ∧ l = []) := by
  refine Fn.enter1 6 Try.func106 rfl rfl (Nat.le_of_ble_eq_true rfl) (fun F => ?_)
  try simp only [List.cons_append, List.nil_append]
  refine T.seq ?_
  refine T.region ?_
  refine LW.q rfl (Qt.assign rfl) ?_
  refine LW.done ?_
  refine T.seq ?_
  refine T.region ?_
  refine LW.q rfl (Qt.move rfl) ?_
  refine LW.q rfl (Qt.move rfl) ?_
  refine LW.q rfl (Qt.neqS rfl rfl) ?_
  refine LW.q rfl (Qt.assign rfl) ?_
  refine LW.done ?_
  refine T.ret ?_
  exact ⟨.inl rfl, _, _, res [_] rfl ⟨rvT rfl, trivial⟩, ⟨by simp [outV], rfl⟩, Sub.any⟩
theorem Bs.nan2 (B : Base) (a : Str) : Fn Try.prog B 90 #[kT a] [] (fun v l => v = .bool false ∧ l = []) := by
  refine Fn.enter1 6 Try.func90 rfl rfl (Nat.le_of_ble_eq_true rfl) (fun F => ?_)
  try simp only [List.cons_append, List.nil_append]
  refine T.seq ?_
  refine T.region ?_
  refine LW.q rfl (Qt.assign rfl) ?_
  refine LW.done ?_
  refine T.seq ?_
  refine T.region ?_
  refine LW.q rfl (Qt.move rfl) ?_
  refine LW.q rfl (Qt.move rfl) ?_
  refine LW.q rfl (Qt.neqS rfl rfl) ?_
  refine LW.q rfl (Qt.assign rfl) ?_
  refine LW.done ?_
  refine T.ret ?_
  exact ⟨.inl rfl, _, _, res [_] rfl ⟨rvT rfl, trivial⟩, ⟨by simp [outV], rfl⟩, Sub.any⟩
theorem Bs.less (B : Base) (a b : Str) : Fn Try.prog B 89 #[kT a, kT b] [] (fun v l => v = .bool (sl a b) ∧ l = []) := by
  refine Fn.enter2 17 Try.func89 rfl rfl (Nat.le_of_ble_eq_true rfl) (fun F => ?_)
  try simp only [List.cons_append, List.nil_append]
  refine T.seq ?_
  refine T.region ?_
  refine LW.q rfl (Qt.assign rfl) ?_
  refine LW.done ?_
  refine T.seq ?_
  refine T.region ?_
  refine LW.q rfl (Qt.move rfl) ?_
  refine LW.e rfl (Ef.call (Bs.nan1 B a) Try.func106 rfl rfl rfl ?_)
  rintro _ _ ⟨rfl, rfl⟩
  try simp only [List.cons_append, List.nil_append]
  refine LW.q rfl (Qt.move rfl) ?_
  first | refine LW.gF (t := 7) rfl rfl ?_ | refine LW.gF (t := 7) rfl (decide_eq_false (rfl)) ?_ | refine LW.gF (t := 7) rfl (rfl) ?_
  refine LW.s rfl ?_
  refine LW.s rfl ?_
  refine LW.s rfl ?_
  refine LW.q rfl (Qt.pick rfl rfl) ?_
  refine LW.q rfl (Qt.move rfl) ?_
  first | refine LW.gF (t := 12) rfl rfl ?_ | refine LW.gF (t := 12) rfl (decide_eq_false (rfl)) ?_ | refine LW.gF (t := 12) rfl (rfl) ?_
  refine LW.q rfl (Qt.move rfl) ?_
  refine LW.q rfl (Qt.move rfl) ?_
  refine LW.q rfl (Qt.lssB rfl rfl) ?_
  refine LW.q rfl (Qt.pick rfl rfl) ?_
  refine LW.q rfl (Qt.assign rfl) ?_
  refine LW.done ?_
  refine T.ret ?_
  exact ⟨.inl rfl, _, _, res [_] rfl ⟨rvT rfl, trivial⟩, ⟨rfl, rfl⟩, Sub.any⟩

/-- The keys rise. -/
abbrev Rise (ks : List Str) : Prop := ks.Pairwise fun a b => sl a b = true
theorem Rise.at {ks : List Str} (h : Rise ks) {i j : Nat} {a b : Str} (hij : i < j) (ha : ks[i]? = some a) (hb : ks[j]? = some b) : sl a b = true := by
  obtain ⟨h1, rfl⟩ := List.getElem?_eq_some_iff.1 ha
  obtain ⟨h2, rfl⟩ := List.getElem?_eq_some_iff.1 hb
  exact List.pairwise_iff_getElem.1 h i j h1 h2 hij
/-- A key's place among keys that rise. -/
def spot (ks : List Str) (key : Str) : Nat := (ks.takeWhile fun s => sl s key).length
theorem spot_le (ks : List Str) (key : Str) : spot ks key ≤ ks.length := by
  unfold spot
  exact List.Sublist.length_le (List.takeWhile_sublist _)
theorem spot_eq : ∀ {ks : List Str} {key : Str} {i : Nat}, i ≤ ks.length → (∀ k s, k < i → ks[k]? = some s → sl s key = true) → (∀ s, ks[i]? = some s → sl s key = false) → spot ks key = i
  | [], _, i, h, _, _ => by simp at h; subst h; rfl
  | a :: ks, key, 0, _, _, h2 => by
    have := h2 a rfl
    unfold spot
    rw [List.takeWhile_cons, this]; rfl
  | a :: ks, key, i + 1, h, h1, h2 => by
    have := h1 0 a (by omega) rfl
    have ih := spot_eq (ks := ks) (key := key) (i := i) (by simp at h; omega) (fun k s hk hs => h1 (k + 1) s (by omega) (by simpa using hs)) (fun s hs => h2 s (by simpa using hs))
    unfold spot at ih ⊢
    rw [List.takeWhile_cons, this]
    simp [ih]
theorem spot_lt : ∀ {ks : List Str} {key : Str} {k : Nat} {s : Str}, k < spot ks key → ks[k]? = some s → sl s key = true
  | [], _, k, _, h, _ => by simp [spot] at h
  | a :: ks, key, k, s, h, hs => by
    unfold spot at h
    rw [List.takeWhile_cons] at h
    cases ha : sl a key with
    | false => rw [ha] at h; simp at h
    | true =>
      rw [ha] at h
      cases k with
      | zero => simp at hs; subst hs; exact ha
      | succ k =>
        simp at h hs
        exact spot_lt (ks := ks) (k := k) h hs
theorem spot_at : ∀ {ks : List Str} {key : Str} {s : Str}, ks[spot ks key]? = some s → sl s key = false
  | [], _, _, h => by simp at h
  | a :: ks, key, s, h => by
    unfold spot at h
    rw [List.takeWhile_cons] at h
    cases ha : sl a key with
    | false => rw [ha] at h; simp at h; subst h; exact ha
    | true =>
      rw [ha] at h
      simp at h
      exact spot_at (ks := ks) (key := key) h
section
variable {P : Program} {B : Base} {n : Nat} {S l : List Assn} {f : Fr}
variable {d : Option Tmp} {ty : TypeId} {pos : String} {af : Array Edge} {gd : Option (Nat × Bool)}
theorem Qt.half {t t2 : TypeId} {x y : Operand} {k : IntKind} {i z : Int} (a : Nat) (ha : a < 2 ^ 63) (hx : ev n f x = some (.int .u64 z)) (hz : z = (a : Int)) (hy : ev n f y = some (.int k i)) (hi : i = 1) : Qt P B n S ⟨d, .binOp .shr t x y t2, ty, pos, af, gd⟩ f (.int .u64 ((a / 2 : Nat) : Int)) := by
  subst hz
  have e : (a : Int) = ((UInt64.ofNat a).toNat : Int) := by simp; omega
  have := Qt.shr64 (P := P) (B := B) (n := n) (S := S) (d := d) (ty := ty) (pos := pos) (af := af) (gd := gd) (t := t) (t2 := t2) (f := f) (x := x) (y := y) (a := UInt64.ofNat a) (k := k) (i := i) 1 (by rw [← e]; exact hx) hy hi (by omega)
  have e2 : (UInt64.ofNat a).toNat / 2 ^ 1 = a / 2 := by simp; omega
  rw [e2] at this
  exact this
end
set_option maxRecDepth 100000 in
theorem Bs.search (B : Base) (S : List Assn) (v : Value) (ks : List Str) (key : Str) (m : Nat) (hm : ks.length = m) (hv : RdV B S v (ks.map kT)) (hr : Rise ks) (hb : m < 2 ^ 40) :
  Fn Try.prog B 72 #[v, kT key] S (fun u l => u = .tuple #[.int .i64 (spot ks key), .bool (decide (ks[spot ks key]? = some key))] ∧ l = S) := by
 obtain ⟨a, c, rfl⟩ := hv.form (m := m) (by simp [hm])
 refine Fn.enter2 54 Try.func72 rfl rfl (Nat.le_of_ble_eq_true rfl) (fun F => ?_)
 try simp only [List.cons_append, List.nil_append]
 refine T.seq ?_
 refine T.region ?_
 refine LW.q rfl (Qt.assign rfl) ?_
 refine LW.q rfl (Qt.assign rfl) ?_
 refine LW.done ?_
 refine T.seq ?_
 refine T.region ?_
 refine LW.q rfl (Qt.move rfl) ?_
 refine LW.q rfl (Qt.len (e := 9) (sz := 1) (by kernel_rfl) rfl) ?_
 refine LW.q rfl (Qt.assign rfl) ?_
 refine LW.done ?_
 refine T.seq ?_
 refine T.region ?_
 refine LW.q rfl (Qt.move rfl) ?_
 refine LW.q rfl (Qt.assign rfl) ?_
 refine LW.q rfl (Qt.assign rfl) ?_
 refine LW.done ?_
 refine T.seq ?_
 refine T.block ?_
 refine T.loop (fun mz fz lz => ∃ (f0 : Fr) (i j : Nat), (i ≤ j ∧ j ≤ m ∧ (∀ k s, k < i → ks[k]? = some s → sl s key = true) ∧ (∀ k s, j ≤ k → ks[k]? = some s → sl s key = false)) ∧ mz = j - i ∧ fz = (upd (upd (upd (upd (upd f0 0 (.slice a m c)) 1 (kT key)) 6 (.int .i64 m)) 7 (.int .i64 i)) 8 (.int .i64 j)) ∧ lz = S ++ F) ?_ ?_
 · refine ⟨_, _, ⟨_, 0, m, ⟨Nat.zero_le _, Nat.le_refl _, fun k s h => by omega, fun k s h hs => by rw [List.getElem?_eq_none (by omega)] at hs; cases hs⟩, rfl, (updS rfl (updS rfl (updS rfl (updS rfl (updS rfl rfl))))), rfl⟩, Sub.any⟩
 ·
  rintro mz fz lz ⟨f0, i, j, ⟨h1, h2, h3, h4⟩, hmz, rfl, rfl⟩
  subst mz
  try simp only [List.cons_append, List.nil_append]
  refine T.seq ?_
  refine T.seq ?_
  refine T.region ?_
  refine LW.q rfl (Qt.move rfl) ?_
  refine LW.q rfl (Qt.move rfl) ?_
  refine LW.q rfl (Qt.lss rfl rfl) ?_
  refine LW.done ?_
  refine T.condP rfl (fun hlt => ?_) (fun hlt => ?_)
  ·
   have hh : (i + j) / 2 < m := by omega
   obtain ⟨b0, o0, rfl, hc0⟩ := hv.at (by omega)
   have hat : ks[(i + j) / 2]? = some ks[(i + j) / 2] := List.getElem?_eq_getElem (by omega)
   refine T.skip ?_
   refine T.block ?_
   refine T.seq ?_
   refine T.region ?_
   refine LW.q rfl (Qt.move rfl) ?_
   refine LW.q rfl (Qt.move rfl) ?_
   refine LW.q rfl (Qt.add rfl rfl (wr64 (by omega) (by omega))) ?_
   refine LW.q rfl (Qt.convI (by kernel_rfl) (by kernel_rfl) rfl (wru64 (by omega) (by omega))) ?_
   refine LW.q rfl (Qt.half (i + j) (by omega) rfl (by omega) rfl rfl) ?_
   refine LW.q rfl (Qt.convI (by kernel_rfl) (by kernel_rfl) rfl (wr64 (by omega) (by omega))) ?_
   refine LW.q rfl (Qt.assign rfl) ?_
   refine LW.done ?_
   refine T.seq ?_
   refine T.region ?_
   refine LW.q rfl (Qt.move rfl) ?_
   refine LW.q rfl (Qt.move rfl) ?_
   refine LW.q rfl (Qt.index _ (e := 9) (sz := 1) (by kernel_rfl) rfl rfl rfl (by omega)) ?_
   refine LW.q rfl (Qt.loadW (v := kT ks[(i + j) / 2]) (by kernel_rfl) rfl (fun w ho => by have := hc0 ((i + j) / 2) (by simp; omega) w ho.drop; rw [List.getElem_map] at this; exact this)) ?_
   refine LW.q rfl (Qt.move rfl) ?_
   refine LW.e rfl (Ef.call (Bs.less B ks[(i + j) / 2] key) Try.func89 rfl rfl rfl ?_)
   rintro _ _ ⟨rfl, rfl⟩
   try simp only [List.cons_append, List.nil_append]
   refine LW.done ?_
   refine T.cond rfl (fun hless => ?_) (fun hless => ?_)
   ·
    refine T.region ?_
    refine LW.q rfl (Qt.move rfl) ?_
    refine LW.q rfl (Qt.add rfl rfl (wr64 (by omega) (by omega))) ?_
    refine LW.q rfl (Qt.assign rfl) ?_
    refine LW.done ?_
    refine ⟨_, ?_, _, ⟨_, (i + j) / 2 + 1, j, ⟨by omega, h2, fun k s hk hs => (Nat.lt_or_eq_of_le (Nat.le_of_lt_succ hk)).elim (fun hk => sl_trans (hr.at hk hs hat) hless) (fun hk => by subst hk; rw [hat] at hs; cases hs; exact hless), h4⟩, rfl, (updS rfl (updS rfl (updS rfl (updS rfl (updS rfl rfl))))), rfl⟩, Sub.any⟩
    first | omega | (simp; omega)
   ·
    refine T.region ?_
    refine LW.q rfl (Qt.move rfl) ?_
    refine LW.q rfl (Qt.assign rfl) ?_
    refine LW.done ?_
    refine ⟨_, ?_, _, ⟨_, i, (i + j) / 2, ⟨by omega, by omega, h3, fun k s hk hs => (Nat.lt_or_eq_of_le hk).elim (fun hk => Bool.eq_false_iff.2 fun e => by rw [sl_trans (hr.at hk hat hs) e] at hless; cases hless) (fun hk => by subst hk; rw [hat] at hs; cases hs; exact hless)⟩, rfl, (updS rfl (updS rfl (updS rfl (updS rfl (updS rfl rfl))))), rfl⟩, Sub.any⟩
    first | omega | (simp; omega)
  ·
   obtain rfl : i = j := by omega
   have hsp : spot ks key = i := spot_eq (by omega) h3 (fun s hs => h4 i s (Nat.le_refl _) hs)
   refine T.exit ?_
   refine T.seq ?_
   refine T.region ?_
   refine LW.q rfl (Qt.move rfl) ?_
   refine LW.q rfl (Qt.move rfl) ?_
   refine LW.q rfl (Qt.move rfl) ?_
   refine LW.q rfl (Qt.lss rfl rfl) ?_
   refine LW.q rfl (Qt.move rfl) ?_
   refine LW.split (t := 35) rfl (fun hin => ?_) (fun hin => ?_)
   ·
    try replace hin := of_decide_eq_true hin
    obtain ⟨b0, o0, rfl, hc0⟩ := hv.at (by omega)
    refine LW.q rfl (Qt.move rfl) ?_
    refine LW.q rfl (Qt.move rfl) ?_
    refine LW.q rfl (Qt.index _ (e := 9) (sz := 1) (by kernel_rfl) rfl rfl rfl (by omega)) ?_
    refine LW.q rfl (Qt.loadW (v := kT ks[i]) (by kernel_rfl) rfl (fun w ho => by have := hc0 i (by simp; omega) w ho.drop; rw [List.getElem_map] at this; exact this)) ?_
    refine LW.q rfl (Qt.move rfl) ?_
    refine LW.q rfl (Qt.eqlS rfl rfl) ?_
    refine LW.q rfl (Qt.move rfl) ?_
    refine LW.split (t := 42) rfl (fun hfound => ?_) (fun hfound => ?_)
    ·
     try replace hfound := of_decide_eq_true hfound
     refine LW.s rfl ?_
     refine LW.s rfl ?_
     refine LW.s rfl ?_
     refine LW.s rfl ?_
     refine LW.s rfl ?_
     refine LW.s rfl ?_
     refine LW.s rfl ?_
     refine LW.s rfl ?_
     refine LW.s rfl ?_
     refine LW.q rfl (Qt.pick rfl rfl) ?_
     refine LW.q rfl (Qt.pick rfl rfl) ?_
     refine LW.q rfl (Qt.assign rfl) ?_
     refine LW.q rfl (Qt.assign rfl) ?_
     refine LW.done ?_
     refine T.ret ?_
     exact ⟨.inl rfl, _, _, res [_, _] rfl ⟨rvT rfl, rvT rfl, trivial⟩, ⟨by rw [hsp, List.getElem?_eq_getElem (by omega), hfound]; simp [outV], rfl⟩, Sub.any⟩
    ·
     try replace hfound := of_decide_eq_false hfound
     refine LW.q rfl (Qt.move rfl) ?_
     refine LW.q rfl (Qt.move rfl) ?_
     refine LW.q rfl (Qt.index _ (e := 9) (sz := 1) (by kernel_rfl) rfl rfl rfl (by omega)) ?_
     refine LW.q rfl (Qt.loadW (v := kT ks[i]) (by kernel_rfl) rfl (fun w ho => by have := hc0 i (by simp; omega) w ho.drop; rw [List.getElem_map] at this; exact this)) ?_
     refine LW.e rfl (Ef.call (Bs.nan2 B ks[i]) Try.func90 rfl rfl rfl ?_)
     rintro _ _ ⟨rfl, rfl⟩
     try simp only [List.cons_append, List.nil_append]
     refine LW.q rfl (Qt.move rfl) ?_
     first | refine LW.gF (t := 48) rfl rfl ?_ | refine LW.gF (t := 48) rfl (decide_eq_false (rfl)) ?_ | refine LW.gF (t := 48) rfl (rfl) ?_
     refine LW.s rfl ?_
     refine LW.s rfl ?_
     refine LW.q rfl (Qt.pick rfl rfl) ?_
     refine LW.q rfl (Qt.pick rfl rfl) ?_
     refine LW.q rfl (Qt.pick rfl rfl) ?_
     refine LW.q rfl (Qt.assign rfl) ?_
     refine LW.q rfl (Qt.assign rfl) ?_
     refine LW.done ?_
     refine T.ret ?_
     exact ⟨.inl rfl, _, _, res [_, _] rfl ⟨rvT rfl, rvT rfl, trivial⟩, ⟨by rw [hsp, List.getElem?_eq_getElem (by omega)]; simp [outV, hfound], rfl⟩, Sub.any⟩
   ·
    try replace hin := of_decide_eq_false hin
    refine LW.s rfl ?_
    refine LW.s rfl ?_
    refine LW.s rfl ?_
    refine LW.s rfl ?_
    refine LW.s rfl ?_
    refine LW.s rfl ?_
    refine LW.s rfl ?_
    refine LW.s rfl ?_
    refine LW.s rfl ?_
    refine LW.s rfl ?_
    refine LW.s rfl ?_
    refine LW.s rfl ?_
    refine LW.s rfl ?_
    refine LW.s rfl ?_
    refine LW.s rfl ?_
    refine LW.s rfl ?_
    refine LW.s rfl ?_
    refine LW.q rfl (Qt.pick rfl rfl) ?_
    refine LW.q rfl (Qt.assign rfl) ?_
    refine LW.q rfl (Qt.assign rfl) ?_
    refine LW.done ?_
    refine T.ret ?_
    exact ⟨.inl rfl, _, _, res [_, _] rfl ⟨rvT rfl, rvT rfl, trivial⟩, ⟨by rw [hsp, List.getElem?_eq_none (by omega)]; simp [outV], rfl⟩, Sub.any⟩
end Go.Proofs.Ytefognjcognknaa

/- Bits counted, periods checked, forks, keys. Conditions: sizes; that periods are right where it says so. -/
set_option linter.unusedSimpArgs false
set_option linter.unusedVariables false
namespace Go.Proofs.Ytefognjcognknaa
open Go.RowKit
abbrev okP (f t : Int) : Prop := 0 ≤ f ∧ f < t ∧ t ≤ 1099511627776
abbrev pdV (f t : Int) : Value := .agg #[.int .i64 f, .int .i64 t]
abbrev lenTab : List UInt8 := (([0, 1, 2, 2, 3, 3, 3, 3, 4, 4, 4, 4, 4, 4, 4, 4, 5, 5, 5, 5, 5, 5, 5, 5, 5, 5, 5, 5, 5, 5, 5, 5] ++ List.replicate 32 6 : List UInt8).append (List.replicate 64 7)).append ((List.replicate 64 8).append (List.replicate 64 8))
theorem lenTab_at : ∀ j : Fin 256, (lenTab[j.val]?.map UInt8.toNat) = some (lenN j.val) := by decide +kernel
theorem tab_at {u : Nat} (h : u < 256) (h2 : u < lenTab.length) : ((lenTab[u]'h2).toNat : Int) = lenN u := by
  have := lenTab_at ⟨u, h⟩
  rw [List.getElem?_eq_getElem h2] at this
  rw [Option.map_some] at this
  have := Option.some.inj this
  exact_mod_cast this
theorem wru64_nat {m : Nat} (h : m < 2 ^ 64) : IntKind.u64.wrap (m : Int) = m := wru64 (by omega) (by omega)
set_option maxRecDepth 100000 in
theorem Ri.len64 (B : Base) (u : Nat) (hu : u < 2 ^ 64) : Fn Try.prog B 56 #[.int .u64 u] [] (fun v l => v = .int .i64 (lenN u) ∧ l = []) := by
 refine Fn.enter1 25 Try.func56 rfl rfl (Nat.le_of_ble_eq_true rfl) (fun F => ?_)
 try simp only [List.cons_append, List.nil_append]
 refine T.seq ?_
 refine T.region ?_
 refine LW.q rfl (Qt.assign rfl) ?_
 refine LW.done ?_
 refine T.cut (fun fz lz => ∃ (f0 : Fr) (x m : Nat), (x < 2 ^ 32 ∧ lenN u = m + lenN x ∧ m ≤ 32) ∧ fz = (upd (upd f0 0 (.int .u64 x)) 2 (.int .i64 m)) ∧ lz = F) ?_ ?_
 ·
  refine T.seq ?_
  refine T.region ?_
  refine LW.q rfl (Qt.move rfl) ?_
  refine LW.q rfl (Qt.geq rfl rfl) ?_
  refine LW.done ?_
  refine T.condP rfl (fun h1 => ?_) (fun h1 => ?_)
  ·
   refine T.seq ?_
   refine T.region ?_
   refine LW.q rfl (Qt.move rfl) ?_
   refine LW.q rfl (Qt.shrI u 32 rfl rfl rfl rfl rfl (by omega)) ?_
   refine LW.q rfl (Qt.assign rfl) ?_
   refine LW.done ?_
   refine T.region ?_
   refine LW.q rfl (Qt.assign rfl) ?_
   refine LW.done ?_
   exact ⟨_, ⟨_, u / 2 ^ 32, 32, ⟨by omega, by rw [lenN_div (j := 32) (by omega)]; omega, by omega⟩, (updS rfl (updS rfl rfl)), rfl⟩, Sub.any⟩
  ·
   refine T.skip ?_
   exact ⟨_, ⟨_, u, 0, ⟨by omega, by omega, by omega⟩, (updS rfl (updS rfl rfl)), rfl⟩, Sub.any⟩
 rintro fz lz ⟨f0, x, m, ⟨hx, hm, hm2⟩, rfl, rfl⟩
 try simp only [List.cons_append, List.nil_append]
 obtain ⟨F, rfl⟩ : ∃ F, F = lz := ⟨_, rfl⟩
 refine T.cut (fun fz lz => ∃ (f0 : Fr) (x m : Nat), (x < 2 ^ 16 ∧ lenN u = m + lenN x ∧ m ≤ 48) ∧ fz = (upd (upd f0 0 (.int .u64 x)) 2 (.int .i64 m)) ∧ lz = F) ?_ ?_
 ·
  refine T.seq ?_
  refine T.region ?_
  refine LW.q rfl (Qt.move rfl) ?_
  refine LW.q rfl (Qt.geq rfl rfl) ?_
  refine LW.done ?_
  refine T.condP rfl (fun h1 => ?_) (fun h1 => ?_)
  ·
   refine T.seq ?_
   refine T.region ?_
   refine LW.q rfl (Qt.move rfl) ?_
   refine LW.q rfl (Qt.shrI x 16 rfl rfl rfl rfl rfl (by omega)) ?_
   refine LW.q rfl (Qt.assign rfl) ?_
   refine LW.done ?_
   refine T.region ?_
   refine LW.q rfl (Qt.move rfl) ?_
   refine LW.q rfl (Qt.add rfl rfl (wr64 (by omega) (by omega))) ?_
   refine LW.q rfl (Qt.assign rfl) ?_
   refine LW.done ?_
   exact ⟨_, ⟨_, x / 2 ^ 16, m + 16, ⟨by omega, by rw [hm, lenN_div (u := x) (j := 16) (by omega)]; omega, by omega⟩, (updS rfl (updS rfl rfl)), rfl⟩, Sub.any⟩
  ·
   refine T.skip ?_
   exact ⟨_, ⟨_, x, m, ⟨by omega, by omega, by omega⟩, (updS rfl (updS rfl rfl)), rfl⟩, Sub.any⟩
 rintro fz lz ⟨f0, x, m, ⟨hx2, hm, hm2⟩, rfl, rfl⟩
 try simp only [List.cons_append, List.nil_append]
 obtain ⟨F, rfl⟩ : ∃ F, F = lz := ⟨_, rfl⟩
 refine T.cut (fun fz lz => ∃ (f0 : Fr) (x m : Nat), (x < 2 ^ 8 ∧ lenN u = m + lenN x ∧ m ≤ 56) ∧ fz = (upd (upd f0 0 (.int .u64 x)) 2 (.int .i64 m)) ∧ lz = F) ?_ ?_
 ·
  refine T.seq ?_
  refine T.region ?_
  refine LW.q rfl (Qt.move rfl) ?_
  refine LW.q rfl (Qt.geq rfl rfl) ?_
  refine LW.done ?_
  refine T.condP rfl (fun h1 => ?_) (fun h1 => ?_)
  ·
   refine T.seq ?_
   refine T.region ?_
   refine LW.q rfl (Qt.move rfl) ?_
   refine LW.q rfl (Qt.shrI x 8 rfl rfl rfl rfl rfl (by omega)) ?_
   refine LW.q rfl (Qt.assign rfl) ?_
   refine LW.done ?_
   refine T.region ?_
   refine LW.q rfl (Qt.move rfl) ?_
   refine LW.q rfl (Qt.add rfl rfl (wr64 (by omega) (by omega))) ?_
   refine LW.q rfl (Qt.assign rfl) ?_
   refine LW.done ?_
   exact ⟨_, ⟨_, x / 2 ^ 8, m + 8, ⟨by omega, by rw [hm, lenN_div (u := x) (j := 8) (by omega)]; omega, by omega⟩, (updS rfl (updS rfl rfl)), rfl⟩, Sub.any⟩
  ·
   refine T.skip ?_
   exact ⟨_, ⟨_, x, m, ⟨by omega, by omega, by omega⟩, (updS rfl (updS rfl rfl)), rfl⟩, Sub.any⟩
 rintro fz lz ⟨f0, x, m, ⟨hx3, hm, hm2⟩, rfl, rfl⟩
 try simp only [List.cons_append, List.nil_append]
 have hxl : x < lenTab.length := by simp [lenTab]; omega
 have htab := tab_at hx3 hxl
 have hlen : lenN x ≤ 8 := by have := (lenTab[x]'hxl).toNat_lt; unfold lenN; split; omega; rename_i h0; have := (Nat.log2_lt h0).2 (show x < 2 ^ 8 from hx3); omega
 refine T.seq ?_
 refine T.region ?_
 refine LW.q rfl (Qt.move rfl) ?_
 refine LW.q rfl (Qt.move rfl) ?_
 refine LW.q rfl (Qt.convI (r := x) (by kernel_rfl) (by kernel_rfl) rfl (by rw [wr8_nat]; simp; omega)) ?_
 refine LW.q rfl (Qt.indexS (a := lenTab) x (by kernel_rfl) rfl rfl rfl hxl) ?_
 refine LW.q rfl (Qt.convI (r := lenN x) (by kernel_rfl) (by kernel_rfl) rfl (by rw [htab]; exact wr64 (by omega) (by omega))) ?_
 refine LW.q rfl (Qt.add rfl rfl (wr64 (by omega) (by omega))) ?_
 refine LW.q rfl (Qt.assign rfl) ?_
 refine LW.done ?_
 refine T.ret ?_
 exact ⟨.inl rfl, _, _, res [_] rfl ⟨rvT rfl, trivial⟩, ⟨by rw [hm]; simp [outV], rfl⟩, Sub.any⟩
theorem Ri.check (B : Base) (f t : Int) (h : okP f t) : Fn Try.prog B 36 #[pdV f t] [] (fun v l => v = .int .i64 0 ∧ l = []) := by
  obtain ⟨h1, h2, h3⟩ := h
  refine Fn.enter1 18 Try.func36 rfl rfl (Nat.le_of_ble_eq_true rfl) (fun F => ?_)
  try simp only [List.cons_append, List.nil_append]
  refine T.seq ?_
  refine T.region ?_
  refine LW.e rfl (Ef.box [_, _] rfl rfl ?_)
  intro g1
  refine LW.q rfl (Qt.assign rfl) ?_
  refine LW.done ?_
  refine T.seq ?_
  refine T.seq ?_
  refine T.region ?_
  refine LW.q rfl (Qt.fieldAddr0 (by kernel_rfl) rfl) ?_
  first | refine LW.q rfl (Qt.load (by kernel_rfl) rfl rfl) ?_ | refine LW.q rfl (Qt.load (by kernel_rfl) rfl (map_at _ _ _ (by omega))) ?_ | refine LW.q rfl (Qt.load (by kernel_rfl) rfl (flat_cell0 _ _ _ (by intros; rfl) _ (by omega) (by rfl))) ?_ | refine LW.q rfl (Qt.load (by kernel_rfl) rfl (flat_cell _ _ _ (by intros; rfl) _ _ (by omega) (by rfl))) ?_ | refine LW.q rfl (Qt.load (by kernel_rfl) rfl (bytes_at _ _ (by omega))) ?_
  refine LW.q rfl (Qt.lss rfl rfl) ?_
  refine LW.q rfl (Qt.move rfl) ?_
  first | refine LW.gF (t := 6) rfl rfl ?_ | refine LW.gF (t := 6) rfl (decide_eq_false (by omega)) ?_ | refine LW.gF (t := 6) rfl (by omega) ?_
  refine LW.q rfl (Qt.fieldAddr0 (by kernel_rfl) rfl) ?_
  first | refine LW.q rfl (Qt.load (by kernel_rfl) rfl rfl) ?_ | refine LW.q rfl (Qt.load (by kernel_rfl) rfl (map_at _ _ _ (by omega))) ?_ | refine LW.q rfl (Qt.load (by kernel_rfl) rfl (flat_cell0 _ _ _ (by intros; rfl) _ (by omega) (by rfl))) ?_ | refine LW.q rfl (Qt.load (by kernel_rfl) rfl (flat_cell _ _ _ (by intros; rfl) _ _ (by omega) (by rfl))) ?_ | refine LW.q rfl (Qt.load (by kernel_rfl) rfl (bytes_at _ _ (by omega))) ?_
  refine LW.q rfl (Qt.fieldAddr (off := 1) (by kernel_rfl) rfl) ?_
  first | refine LW.q rfl (Qt.load (by kernel_rfl) rfl rfl) ?_ | refine LW.q rfl (Qt.load (by kernel_rfl) rfl (map_at _ _ _ (by omega))) ?_ | refine LW.q rfl (Qt.load (by kernel_rfl) rfl (flat_cell0 _ _ _ (by intros; rfl) _ (by omega) (by rfl))) ?_ | refine LW.q rfl (Qt.load (by kernel_rfl) rfl (flat_cell _ _ _ (by intros; rfl) _ _ (by omega) (by rfl))) ?_ | refine LW.q rfl (Qt.load (by kernel_rfl) rfl (bytes_at _ _ (by omega))) ?_
  refine LW.q rfl (Qt.geq rfl rfl) ?_
  refine LW.q rfl (Qt.pick rfl rfl) ?_
  refine LW.q rfl (Qt.move rfl) ?_
  first | refine LW.gF (t := 13) rfl rfl ?_ | refine LW.gF (t := 13) rfl (decide_eq_false (by omega)) ?_ | refine LW.gF (t := 13) rfl (by omega) ?_
  refine LW.q rfl (Qt.fieldAddr (off := 1) (by kernel_rfl) rfl) ?_
  first | refine LW.q rfl (Qt.load (by kernel_rfl) rfl rfl) ?_ | refine LW.q rfl (Qt.load (by kernel_rfl) rfl (map_at _ _ _ (by omega))) ?_ | refine LW.q rfl (Qt.load (by kernel_rfl) rfl (flat_cell0 _ _ _ (by intros; rfl) _ (by omega) (by rfl))) ?_ | refine LW.q rfl (Qt.load (by kernel_rfl) rfl (flat_cell _ _ _ (by intros; rfl) _ _ (by omega) (by rfl))) ?_ | refine LW.q rfl (Qt.load (by kernel_rfl) rfl (bytes_at _ _ (by omega))) ?_
  refine LW.q rfl (Qt.gtr rfl rfl) ?_
  refine LW.q rfl (Qt.pick rfl rfl) ?_
  refine LW.done ?_
  first | refine T.condF rfl ?_ | refine T.condPF rfl (by omega) ?_ | refine T.condBF rfl (by omega) ?_
  refine T.skip ?_
  refine T.seq ?_
  refine T.region ?_
  refine LW.q rfl (Qt.assign rfl) ?_
  refine LW.done ?_
  refine T.ret ?_
  exact ⟨.inl rfl, _, _, res [_] rfl ⟨rvT rfl, trivial⟩, ⟨rfl, rfl⟩, Sub.any⟩
theorem Ri.checkNo (B : Base) (f t : Int) (h : ¬ okP f t) : Fn Try.prog B 36 #[pdV f t] [] (fun v l => v = .int .i64 40 ∧ l = []) := by
 unfold okP at h
 refine Fn.enter1 18 Try.func36 rfl rfl (Nat.le_of_ble_eq_true rfl) (fun F => ?_)
 try simp only [List.cons_append, List.nil_append]
 refine T.seq ?_
 refine T.region ?_
 refine LW.e rfl (Ef.box [_, _] rfl rfl ?_)
 intro g1
 refine LW.q rfl (Qt.assign rfl) ?_
 refine LW.done ?_
 refine T.seq ?_
 refine T.seq ?_
 refine T.region ?_
 refine LW.q rfl (Qt.fieldAddr0 (by kernel_rfl) rfl) ?_
 first | refine LW.q rfl (Qt.load (by kernel_rfl) rfl rfl) ?_ | refine LW.q rfl (Qt.load (by kernel_rfl) rfl (map_at _ _ _ (by omega))) ?_ | refine LW.q rfl (Qt.load (by kernel_rfl) rfl (flat_cell0 _ _ _ (by intros; rfl) _ (by omega) (by rfl))) ?_ | refine LW.q rfl (Qt.load (by kernel_rfl) rfl (flat_cell _ _ _ (by intros; rfl) _ _ (by omega) (by rfl))) ?_ | refine LW.q rfl (Qt.load (by kernel_rfl) rfl (bytes_at _ _ (by omega))) ?_
 refine LW.q rfl (Qt.lss rfl rfl) ?_
 refine LW.q rfl (Qt.move rfl) ?_
 refine LW.split (t := 6) rfl (fun h1 => ?_) (fun h1 => ?_)
 ·
  try replace h1 := of_decide_eq_true h1
  refine LW.s rfl ?_
  refine LW.s rfl ?_
  refine LW.s rfl ?_
  refine LW.s rfl ?_
  refine LW.s rfl ?_
  refine LW.q rfl (Qt.pick rfl rfl) ?_
  refine LW.q rfl (Qt.move rfl) ?_
  first | refine LW.gT (t := 13) rfl rfl ?_ | refine LW.gT (t := 13) rfl (decide_eq_true (by omega)) ?_ | refine LW.gT (t := 13) rfl (by omega) ?_
  refine LW.s rfl ?_
  refine LW.s rfl ?_
  refine LW.s rfl ?_
  refine LW.q rfl (Qt.pick rfl rfl) ?_
  refine LW.done ?_
  first | refine T.condT rfl ?_ | refine T.condPT rfl (by omega) ?_ | refine T.condBT rfl (by omega) ?_
  refine T.seq ?_
  refine T.region ?_
  refine LW.q rfl (Qt.assign rfl) ?_
  refine LW.done ?_
  refine T.ret ?_
  exact ⟨.inl rfl, _, _, res [_] rfl ⟨rvT rfl, trivial⟩, ⟨rfl, rfl⟩, Sub.any⟩
 ·
  try replace h1 := of_decide_eq_false h1
  refine LW.q rfl (Qt.fieldAddr0 (by kernel_rfl) rfl) ?_
  first | refine LW.q rfl (Qt.load (by kernel_rfl) rfl rfl) ?_ | refine LW.q rfl (Qt.load (by kernel_rfl) rfl (map_at _ _ _ (by omega))) ?_ | refine LW.q rfl (Qt.load (by kernel_rfl) rfl (flat_cell0 _ _ _ (by intros; rfl) _ (by omega) (by rfl))) ?_ | refine LW.q rfl (Qt.load (by kernel_rfl) rfl (flat_cell _ _ _ (by intros; rfl) _ _ (by omega) (by rfl))) ?_ | refine LW.q rfl (Qt.load (by kernel_rfl) rfl (bytes_at _ _ (by omega))) ?_
  refine LW.q rfl (Qt.fieldAddr (off := 1) (by kernel_rfl) rfl) ?_
  first | refine LW.q rfl (Qt.load (by kernel_rfl) rfl rfl) ?_ | refine LW.q rfl (Qt.load (by kernel_rfl) rfl (map_at _ _ _ (by omega))) ?_ | refine LW.q rfl (Qt.load (by kernel_rfl) rfl (flat_cell0 _ _ _ (by intros; rfl) _ (by omega) (by rfl))) ?_ | refine LW.q rfl (Qt.load (by kernel_rfl) rfl (flat_cell _ _ _ (by intros; rfl) _ _ (by omega) (by rfl))) ?_ | refine LW.q rfl (Qt.load (by kernel_rfl) rfl (bytes_at _ _ (by omega))) ?_
  refine LW.q rfl (Qt.geq rfl rfl) ?_
  refine LW.q rfl (Qt.pick rfl rfl) ?_
  refine LW.q rfl (Qt.move rfl) ?_
  refine LW.split (t := 13) rfl (fun h2 => ?_) (fun h2 => ?_)
  ·
   try replace h2 := of_decide_eq_true h2
   refine LW.s rfl ?_
   refine LW.s rfl ?_
   refine LW.s rfl ?_
   refine LW.q rfl (Qt.pick rfl rfl) ?_
   refine LW.done ?_
   first | refine T.condT rfl ?_ | refine T.condPT rfl (by omega) ?_ | refine T.condBT rfl (by omega) ?_
   refine T.seq ?_
   refine T.region ?_
   refine LW.q rfl (Qt.assign rfl) ?_
   refine LW.done ?_
   refine T.ret ?_
   exact ⟨.inl rfl, _, _, res [_] rfl ⟨rvT rfl, trivial⟩, ⟨rfl, rfl⟩, Sub.any⟩
  ·
   try replace h2 := of_decide_eq_false h2
   refine LW.q rfl (Qt.fieldAddr (off := 1) (by kernel_rfl) rfl) ?_
   first | refine LW.q rfl (Qt.load (by kernel_rfl) rfl rfl) ?_ | refine LW.q rfl (Qt.load (by kernel_rfl) rfl (map_at _ _ _ (by omega))) ?_ | refine LW.q rfl (Qt.load (by kernel_rfl) rfl (flat_cell0 _ _ _ (by intros; rfl) _ (by omega) (by rfl))) ?_ | refine LW.q rfl (Qt.load (by kernel_rfl) rfl (flat_cell _ _ _ (by intros; rfl) _ _ (by omega) (by rfl))) ?_ | refine LW.q rfl (Qt.load (by kernel_rfl) rfl (bytes_at _ _ (by omega))) ?_
   refine LW.q rfl (Qt.gtr rfl rfl) ?_
   refine LW.q rfl (Qt.pick rfl rfl) ?_
   refine LW.done ?_
   first | refine T.condT rfl ?_ | refine T.condPT rfl (by omega) ?_ | refine T.condBT rfl (by omega) ?_
   refine T.seq ?_
   refine T.region ?_
   refine LW.q rfl (Qt.assign rfl) ?_
   refine LW.done ?_
   refine T.ret ?_
   exact ⟨.inl rfl, _, _, res [_] rfl ⟨rvT rfl, trivial⟩, ⟨rfl, rfl⟩, Sub.any⟩
theorem Ri.fork0 (B : Base) (t : Int) (h : okP 0 t) : Fn Try.prog B 27 #[pdV 0 t] [] (fun v l => v = .tuple #[.int .i64 0, .int .i64 0] ∧ l = []) := by
  refine Fn.enter1 35 Try.func27 rfl rfl (Nat.le_of_ble_eq_true rfl) (fun F => ?_)
  try simp only [List.cons_append, List.nil_append]
  refine T.seq ?_
  refine T.region ?_
  refine LW.e rfl (Ef.box [_, _] rfl rfl ?_)
  intro g1
  refine LW.q rfl (Qt.assign rfl) ?_
  refine LW.q rfl (Qt.assign rfl) ?_
  refine LW.done ?_
  refine T.seq ?_
  refine T.seq ?_
  refine T.region ?_
  first | refine LW.q rfl (Qt.loadAgg [_, _] (by kernel_rfl) rfl ⟨rfl, rfl, trivial⟩) ?_ | refine LW.q rfl (Qt.loadAgg [_, _] (by kernel_rfl) rfl (by exact rdl_flat _ _ _ (by intros; rfl) _ (by omega))) ?_
  refine LW.e rfl (Ef.call (Ri.check B 0 t h) Try.func36 rfl rfl rfl ?_)
  rintro _ _ ⟨rfl, rfl⟩
  try simp only [List.cons_append, List.nil_append]
  refine LW.q rfl (Qt.assign rfl) ?_
  refine LW.done ?_
  refine T.seq ?_
  refine T.region ?_
  refine LW.q rfl (Qt.move rfl) ?_
  refine LW.q rfl (Qt.neq rfl rfl) ?_
  refine LW.done ?_
  first | refine T.condF rfl ?_ | refine T.condPF rfl (by omega) ?_ | refine T.condBF rfl (by omega) ?_
  refine T.skip ?_
  refine T.seq ?_
  refine T.seq ?_
  refine T.region ?_
  refine LW.q rfl (Qt.fieldAddr0 (by kernel_rfl) rfl) ?_
  first | refine LW.q rfl (Qt.load (by kernel_rfl) rfl rfl) ?_ | refine LW.q rfl (Qt.load (by kernel_rfl) rfl (map_at _ _ _ (by omega))) ?_ | refine LW.q rfl (Qt.load (by kernel_rfl) rfl (flat_cell0 _ _ _ (by intros; rfl) _ (by omega) (by rfl))) ?_ | refine LW.q rfl (Qt.load (by kernel_rfl) rfl (flat_cell _ _ _ (by intros; rfl) _ _ (by omega) (by rfl))) ?_ | refine LW.q rfl (Qt.load (by kernel_rfl) rfl (bytes_at _ _ (by omega))) ?_
  refine LW.q rfl (Qt.eql rfl rfl) ?_
  refine LW.done ?_
  first | refine T.condT rfl ?_ | refine T.condPT rfl (by omega) ?_ | refine T.condBT rfl (by omega) ?_
  refine T.seq ?_
  refine T.region ?_
  refine LW.q rfl (Qt.assign rfl) ?_
  refine LW.q rfl (Qt.assign rfl) ?_
  refine LW.done ?_
  refine T.ret ?_
  exact ⟨.inl rfl, _, _, res [_, _] rfl ⟨rvT rfl, rvT rfl, trivial⟩, ⟨rfl, rfl⟩, Sub.any⟩
theorem Ri.forkNo (B : Base) (f t : Int) (h : ¬ okP f t) : Fn Try.prog B 27 #[pdV f t] [] (fun v l => v = .tuple #[.int .i64 0, .int .i64 40] ∧ l = []) := by
  refine Fn.enter1 35 Try.func27 rfl rfl (Nat.le_of_ble_eq_true rfl) (fun F => ?_)
  try simp only [List.cons_append, List.nil_append]
  refine T.seq ?_
  refine T.region ?_
  refine LW.e rfl (Ef.box [_, _] rfl rfl ?_)
  intro g1
  refine LW.q rfl (Qt.assign rfl) ?_
  refine LW.q rfl (Qt.assign rfl) ?_
  refine LW.done ?_
  refine T.seq ?_
  refine T.seq ?_
  refine T.region ?_
  first | refine LW.q rfl (Qt.loadAgg [_, _] (by kernel_rfl) rfl ⟨rfl, rfl, trivial⟩) ?_ | refine LW.q rfl (Qt.loadAgg [_, _] (by kernel_rfl) rfl (by exact rdl_flat _ _ _ (by intros; rfl) _ (by omega))) ?_
  refine LW.e rfl (Ef.call (Ri.checkNo B f t h) Try.func36 rfl rfl rfl ?_)
  rintro _ _ ⟨rfl, rfl⟩
  try simp only [List.cons_append, List.nil_append]
  refine LW.q rfl (Qt.assign rfl) ?_
  refine LW.done ?_
  refine T.seq ?_
  refine T.region ?_
  refine LW.q rfl (Qt.move rfl) ?_
  refine LW.q rfl (Qt.neq rfl rfl) ?_
  refine LW.done ?_
  first | refine T.condT rfl ?_ | refine T.condPT rfl (by omega) ?_ | refine T.condBT rfl (by omega) ?_
  refine T.seq ?_
  refine T.region ?_
  refine LW.q rfl (Qt.move rfl) ?_
  refine LW.q rfl (Qt.assign rfl) ?_
  refine LW.q rfl (Qt.assign rfl) ?_
  refine LW.done ?_
  refine T.ret ?_
  exact ⟨.inl rfl, _, _, res [_, _] rfl ⟨rvT rfl, rvT rfl, trivial⟩, ⟨rfl, rfl⟩, Sub.any⟩
theorem ofInt_natR (m : Nat) (h : m < 2 ^ 64) : (BitVec.ofInt 64 (m : Int)).toNat = m := by rw [ofInt_nat, BitVec.toNat_ofNat]; exact Nat.mod_eq_of_lt h
set_option maxRecDepth 100000 in
theorem Ri.fork1 (B : Base) (f t : Nat) (h0 : 0 < f) (h1 : f < t) (h2 : t ≤ 1099511627776) : Fn Try.prog B 27 #[pdV f t] [] (fun v l => v = .tuple #[.int .i64 (forkN f t), .int .i64 0] ∧ l = []) := by
  obtain ⟨j, q, e1, e2, e3, e4⟩ := fork_spec h0 h1
  have hx : (f - 1) ^^^ (t - 1) < 2 ^ 40 := Nat.xor_lt_two_pow (by omega) (by omega)
  have hj : j < 40 := by
    have hne : (f - 1) ^^^ (t - 1) ≠ 0 := fun e => by have := xor_zero e; omega
    have := ((lenN_iff hne).1 e1).1
    exact (Nat.pow_lt_pow_iff_right (by omega)).1 (show 2 ^ j < 2 ^ 40 by omega)
  have hin := fork_in h1
  refine Fn.enter1 35 Try.func27 rfl rfl (Nat.le_of_ble_eq_true rfl) (fun F => ?_)
  try simp only [List.cons_append, List.nil_append]
  refine T.seq ?_
  refine T.region ?_
  refine LW.e rfl (Ef.box [_, _] rfl rfl ?_)
  intro g1
  refine LW.q rfl (Qt.assign rfl) ?_
  refine LW.q rfl (Qt.assign rfl) ?_
  refine LW.done ?_
  refine T.seq ?_
  refine T.seq ?_
  refine T.region ?_
  first | refine LW.q rfl (Qt.loadAgg [_, _] (by kernel_rfl) rfl ⟨rfl, rfl, trivial⟩) ?_ | refine LW.q rfl (Qt.loadAgg [_, _] (by kernel_rfl) rfl (by exact rdl_flat _ _ _ (by intros; rfl) _ (by omega))) ?_
  refine LW.e rfl (Ef.call (Ri.check B f t ⟨by omega, by omega, by omega⟩) Try.func36 rfl rfl rfl ?_)
  rintro _ _ ⟨rfl, rfl⟩
  try simp only [List.cons_append, List.nil_append]
  refine LW.q rfl (Qt.assign rfl) ?_
  refine LW.done ?_
  refine T.seq ?_
  refine T.region ?_
  refine LW.q rfl (Qt.move rfl) ?_
  refine LW.q rfl (Qt.neq rfl rfl) ?_
  refine LW.done ?_
  first | refine T.condF rfl ?_ | refine T.condPF rfl (by omega) ?_ | refine T.condBF rfl (by omega) ?_
  refine T.skip ?_
  refine T.seq ?_
  refine T.seq ?_
  refine T.region ?_
  refine LW.q rfl (Qt.fieldAddr0 (by kernel_rfl) rfl) ?_
  first | refine LW.q rfl (Qt.load (by kernel_rfl) rfl rfl) ?_ | refine LW.q rfl (Qt.load (by kernel_rfl) rfl (map_at _ _ _ (by omega))) ?_ | refine LW.q rfl (Qt.load (by kernel_rfl) rfl (flat_cell0 _ _ _ (by intros; rfl) _ (by omega) (by rfl))) ?_ | refine LW.q rfl (Qt.load (by kernel_rfl) rfl (flat_cell _ _ _ (by intros; rfl) _ _ (by omega) (by rfl))) ?_ | refine LW.q rfl (Qt.load (by kernel_rfl) rfl (bytes_at _ _ (by omega))) ?_
  refine LW.q rfl (Qt.eql rfl rfl) ?_
  refine LW.done ?_
  first | refine T.condF rfl ?_ | refine T.condPF rfl (by omega) ?_ | refine T.condBF rfl (by omega) ?_
  refine T.skip ?_
  refine T.seq ?_
  refine T.drawAll 6 (by kernel_rfl) (Nat.le_of_ble_eq_true rfl) (by kernel_rfl) ?_
  refine RW.q 0 rfl rfl (by kernel_rfl) (Sub.refl _) (Qt.fieldAddr0 (by kernel_rfl) rfl) ?_
  first | refine RW.q 1 rfl rfl (by kernel_rfl) (Sub.refl _) (Qt.load (by kernel_rfl) rfl rfl) ?_ | refine RW.q 1 rfl rfl (by kernel_rfl) (Sub.refl _) (Qt.load (by kernel_rfl) rfl (map_at _ _ _ (by omega))) ?_ | refine RW.q 1 rfl rfl (by kernel_rfl) (Sub.refl _) (Qt.load (by kernel_rfl) rfl (flat_cell0 _ _ _ (by intros; rfl) _ (by omega) (by rfl))) ?_ | refine RW.q 1 rfl rfl (by kernel_rfl) (Sub.refl _) (Qt.load (by kernel_rfl) rfl (flat_cell _ _ _ (by intros; rfl) _ _ (by omega) (by rfl))) ?_ | refine RW.q 1 rfl rfl (by kernel_rfl) (Sub.refl _) (Qt.load (by kernel_rfl) rfl (bytes_at _ _ (by omega))) ?_
  refine RW.q 2 rfl rfl (by kernel_rfl) (Sub.refl _) (Qt.fieldAddr (off := 1) (by kernel_rfl) rfl) ?_
  first | refine RW.q 3 rfl rfl (by kernel_rfl) (Sub.refl _) (Qt.load (by kernel_rfl) rfl rfl) ?_ | refine RW.q 3 rfl rfl (by kernel_rfl) (Sub.refl _) (Qt.load (by kernel_rfl) rfl (map_at _ _ _ (by omega))) ?_ | refine RW.q 3 rfl rfl (by kernel_rfl) (Sub.refl _) (Qt.load (by kernel_rfl) rfl (flat_cell0 _ _ _ (by intros; rfl) _ (by omega) (by rfl))) ?_ | refine RW.q 3 rfl rfl (by kernel_rfl) (Sub.refl _) (Qt.load (by kernel_rfl) rfl (flat_cell _ _ _ (by intros; rfl) _ _ (by omega) (by rfl))) ?_ | refine RW.q 3 rfl rfl (by kernel_rfl) (Sub.refl _) (Qt.load (by kernel_rfl) rfl (bytes_at _ _ (by omega))) ?_
  refine RW.q 4 rfl rfl (by kernel_rfl) (Sub.refl _) (Qt.sub rfl rfl (wr64 (by omega) (by omega))) ?_
  refine RW.q 5 rfl rfl (by kernel_rfl) (Sub.refl _) (Qt.assign rfl) ?_
  refine RW.done (by rfl) ?_
  simp only [List.drop_succ_cons, List.drop_zero, List.drop_nil]
  refine LW.q rfl (Qt.assign rfl) ?_
  refine LW.done ?_
  refine T.seq ?_
  refine T.region ?_
  refine LW.q rfl (Qt.move rfl) ?_
  refine LW.q rfl (Qt.sub (r := ((f - 1 : Nat) : Int)) rfl rfl (by rw [wr64 (by omega) (by omega)]; omega)) ?_
  refine LW.q rfl (Qt.convI (r := ((f - 1 : Nat) : Int)) (by kernel_rfl) (by kernel_rfl) rfl (wru64_nat (by omega))) ?_
  refine LW.q rfl (Qt.move rfl) ?_
  refine LW.q rfl (Qt.convI (r := ((t - 1 : Nat) : Int)) (by kernel_rfl) (by kernel_rfl) rfl (by rw [← wru64_nat (m := t - 1) (by omega)]; congr 1; omega)) ?_
  refine LW.q rfl (Qt.bits64 ((f - 1) ^^^ (t - 1)) rfl (.inr rfl) rfl rfl (by show (BitVec.ofInt 64 _ ^^^ BitVec.ofInt 64 _).toNat = _; rw [BitVec.toNat_xor, ofInt_natR _ (by omega), ofInt_natR _ (by omega)]) (wru64_nat (by omega))) ?_
  refine LW.e rfl (Ef.call (Ri.len64 B ((f - 1) ^^^ (t - 1)) (by omega)) Try.func56 rfl rfl rfl ?_)
  rintro _ _ ⟨rfl, rfl⟩
  try simp only [List.cons_append, List.nil_append]
  refine LW.q rfl (Qt.assign rfl) ?_
  refine LW.done ?_
  refine T.seq ?_
  refine T.region ?_
  refine LW.q rfl (Qt.move rfl) ?_
  refine LW.q rfl (Qt.move rfl) ?_
  refine LW.q rfl (Qt.sub (r := (j : Int)) rfl rfl (by rw [e1, wr64 (by omega) (by omega)]; omega)) ?_
  refine LW.q rfl (Qt.shrI (t - 1) j rfl rfl (by omega) rfl rfl (by omega)) ?_
  refine LW.q rfl (Qt.move rfl) ?_
  refine LW.q rfl (Qt.sub (r := (j : Int)) rfl rfl (by rw [e1, wr64 (by omega) (by omega)]; omega)) ?_
  refine LW.q rfl (Qt.shlI ((t - 1) / 2 ^ j) j rfl rfl rfl rfl rfl (by omega) (by rw [e3, ← e4]; exact wr64 (by omega) (by omega))) ?_
  refine LW.q rfl (Qt.assign rfl) ?_
  refine LW.q rfl (Qt.assign rfl) ?_
  refine LW.done ?_
  refine T.ret ?_
  exact ⟨.inl rfl, _, _, res [_, _] rfl ⟨rvT rfl, rvT rfl, trivial⟩, ⟨by rw [e3, ← e4]; rfl, rfl⟩, Sub.any⟩
theorem Ri.fork (B : Base) (f t : Nat) (h : okP f t) : Fn Try.prog B 27 #[pdV f t] [] (fun v l => v = .tuple #[.int .i64 (forkN f t), .int .i64 0] ∧ l = []) := by
  have h' := h
  obtain ⟨h1, h2, h3⟩ := h
  rcases Nat.eq_zero_or_pos f with rfl | h0
  · have := Ri.fork0 B t h'
    simpa [forkN] using this
  · exact Ri.fork1 B f t h0 (by omega) (by omega)
end Go.Proofs.Ytefognjcognknaa

/- Keys: bytes of numbers, and how keys compare. Conditions: sizes. -/
set_option linter.unusedSimpArgs false
set_option linter.unusedVariables false
namespace Go.Proofs.Ytefognjcognknaa
open Go.RowKit
theorem Cd.elemB : ElemOk Try.prog 146 5 1 1 := .mk' (.int .u8 0) Try.underlying146 (by kernel_rfl) rfl (by omega)
abbrev rB (v : Value) (n : Nat) (b : List UInt8) : Assn := row v 5 1 n (bytesV b)
/-- A number's lowest bytes, the highest of them first. -/
def be (n : UInt64) : Nat → List UInt8
  | 0 => []
  | k + 1 => UInt8.ofNat (n.toNat / 2 ^ (8 * k)) :: be n k
theorem length_be (n : UInt64) : ∀ k, (be n k).length = k
  | 0 => rfl
  | k + 1 => by simp [be, length_be n k]
theorem be_less (x y : UInt64) (p q : List UInt8) : ∀ k, sl (be x k ++ p) (be y k ++ q) = true ↔ x.toNat % 2 ^ (8 * k) < y.toNat % 2 ^ (8 * k) ∨ (x.toNat % 2 ^ (8 * k) = y.toNat % 2 ^ (8 * k) ∧ sl p q = true)
  | 0 => by simp [be, Nat.mod_one]
  | k + 1 => by
    have ih := be_less x y p q k
    have e : ∀ n : Nat, n % 2 ^ (8 * (k + 1)) = (n / 2 ^ (8 * k) % 256) * 2 ^ (8 * k) + n % 2 ^ (8 * k) := fun n => by
      rw [show 8 * (k + 1) = 8 * k + 8 by omega, Nat.pow_add, Nat.mod_mul, Nat.mul_comm (2 ^ (8 * k)) (_ % _)]
      exact Nat.add_comm _ _
    have hp := Nat.two_pow_pos (8 * k)
    have a1 := Nat.mod_lt x.toNat hp
    have a2 := Nat.mod_lt y.toNat hp
    rw [e, e]
    show sl (UInt8.ofNat (x.toNat / 2 ^ (8 * k)) :: (be x k ++ p)) (UInt8.ofNat (y.toNat / 2 ^ (8 * k)) :: (be y k ++ q)) = true ↔ _
    generalize hX : x.toNat % 2 ^ (8 * k) = X at *
    generalize hY : y.toNat % 2 ^ (8 * k) = Y at *
    generalize hU : x.toNat / 2 ^ (8 * k) = U at *
    generalize hV : y.toNat / 2 ^ (8 * k) = V at *
    generalize 2 ^ (8 * k) = Z at *
    simp only [sl, Op.bytesLess, Bool.or_eq_true, Bool.and_eq_true, decide_eq_true_eq, beq_iff_eq]
    have l1 : UInt8.ofNat U < UInt8.ofNat V ↔ U % 256 < V % 256 := by rw [UInt8.lt_iff_toNat_lt]; simp
    have l2 : UInt8.ofNat U = UInt8.ofNat V ↔ U % 256 = V % 256 := by rw [← UInt8.toNat_inj]; simp
    rw [l1, l2, ih]
    generalize U % 256 = u
    generalize V % 256 = v
    constructor
    · rintro (h | ⟨rfl, h⟩)
      · left
        have : (u + 1) * Z ≤ v * Z := Nat.mul_le_mul_right _ h
        rw [Nat.add_mul, Nat.one_mul] at this
        omega
      · rcases h with h | ⟨rfl, h⟩
        · left; omega
        · right; exact ⟨rfl, h⟩
    · intro h
      rcases Nat.lt_trichotomy u v with h2 | h2 | h2
      · left; exact h2
      · subst h2
        right
        refine ⟨rfl, ?_⟩
        rcases h with h | ⟨h, h3⟩
        · left; omega
        · right; exact ⟨by omega, h3⟩
      · exfalso
        have : (v + 1) * Z ≤ u * Z := Nat.mul_le_mul_right _ h2
        rw [Nat.add_mul, Nat.one_mul] at this
        omega
theorem be_less8 (x y : UInt64) (p q : List UInt8) : sl (be x 8 ++ p) (be y 8 ++ q) = true ↔ x.toNat < y.toNat ∨ (x.toNat = y.toNat ∧ sl p q = true) := by
  have h := be_less x y p q 8
  have e : ∀ z : UInt64, z.toNat % 2 ^ (8 * 8) = z.toNat := fun z => Nat.mod_eq_of_lt z.toNat_lt
  rw [e, e] at h
  exact h
/-- Where a period is filed. -/
def idN (id : Int) : Nat := (id + 9223372036854775808).toNat
def keyS (node t : Nat) (id : Int) : Str := be (UInt64.ofNat node) 8 ++ (be (UInt64.ofNat t) 8 ++ be (UInt64.ofNat (idN id)) 8)
theorem keyS_len (node t : Nat) (id : Int) : (keyS node t id).length = 24 := by simp [keyS, length_be]
theorem keyS_less {n t n' t' : Nat} {id id' : Int} (h1 : n < 2 ^ 64) (h2 : t < 2 ^ 64) (h3 : n' < 2 ^ 64) (h4 : t' < 2 ^ 64) (h5 : -9223372036854775808 ≤ id) (h6 : id < 9223372036854775808) (h7 : -9223372036854775808 ≤ id') (h8 : id' < 9223372036854775808) :
    sl (keyS n t id) (keyS n' t' id') = true ↔ n < n' ∨ (n = n' ∧ (t < t' ∨ (t = t' ∧ id < id'))) := by
  have e : ∀ z : Nat, z < 2 ^ 64 → (UInt64.ofNat z).toNat = z := fun z hz => by rw [UInt64.toNat_ofNat']; exact Nat.mod_eq_of_lt hz
  have hi : idN id < 2 ^ 64 := by unfold idN; omega
  have hi' : idN id' < 2 ^ 64 := by unfold idN; omega
  have hlast : sl (be (UInt64.ofNat (idN id)) 8) (be (UInt64.ofNat (idN id')) 8) = true ↔ id < id' := by
    have := be_less8 (UInt64.ofNat (idN id)) (UInt64.ofNat (idN id')) [] []
    rw [List.append_nil, List.append_nil, e _ hi, e _ hi'] at this
    rw [this]
    have h0 : ¬ (sl [] [] = true) := by simp [sl, Op.bytesLess]
    unfold idN
    constructor
    · rintro (h | ⟨_, h⟩)
      · omega
      · exact absurd h h0
    · intro h; left; omega
  unfold keyS
  rw [be_less8, be_less8, hlast, e _ h1, e _ h2, e _ h3, e _ h4]
theorem keyS_inj {n t n' t' : Nat} {id id' : Int} (h1 : n < 2 ^ 64) (h2 : t < 2 ^ 64) (h3 : n' < 2 ^ 64) (h4 : t' < 2 ^ 64) (h5 : -9223372036854775808 ≤ id) (h6 : id < 9223372036854775808) (h7 : -9223372036854775808 ≤ id') (h8 : id' < 9223372036854775808) (h : keyS n t id = keyS n' t' id') : n = n' ∧ t = t' ∧ id = id' := by
  have a := keyS_less h1 h2 h3 h4 h5 h6 h7 h8
  have b := keyS_less h3 h4 h1 h2 h7 h8 h5 h6
  rw [h, sl_irrefl] at a
  rw [h, sl_irrefl] at b
  simp only [Bool.false_eq_true, false_iff] at a b
  omega
theorem keyS_ne (n t : Nat) (id : Int) : keyS n t id ≠ [] := fun h => by
  have := keyS_len n t id
  rw [h] at this; simp at this
set_option maxHeartbeats 1000000 in
set_option maxRecDepth 100000 in
theorem Cd.put (B : Base) (S : List Assn) (v : Value) (b : List UInt8) (m : Nat) (hm : b.length = m) (n : UInt64) (i : Int) (k : Nat) (hi : i = k) (hk : k ≤ 8) (hv : RdV B S v (bytesV b)) (hb : m < 2 ^ 40) : Fn Try.prog B 85 #[v, .int .u64 n.toNat, .int .i64 i] S (fun u l => ∃ p c, u = .slice p (m + k) c ∧ l = rB (.slice p (m + k) c) (m + k) (b ++ be n k) :: S) := by
 subst hi
 subst hm
 obtain ⟨a, c, rfl⟩ := hv.form (m := b.length) (by simp)
 refine Fn.enter3 29 Try.func85 rfl rfl (Nat.le_of_ble_eq_true rfl) (fun F => ?_)
 try simp only [List.cons_append, List.nil_append]
 refine T.seq ?_
 refine T.region ?_
 refine LW.q rfl (Qt.assign rfl) ?_
 refine LW.done ?_
 refine T.seq ?_
 refine T.region ?_
 refine LW.e rfl (Ef.empty Cd.elemB ?_)
 rintro g9
 try simp only [List.cons_append, List.nil_append]
 refine LW.q rfl (Qt.move rfl) ?_
 refine LW.e rfl (Ef.append Cd.elemB rfl rfl (SrcOf.rd (m := b.length) (hv.mono (fun w ho => ho.tl.drop)) (by kernel_rfl) (by simp) one_bytesV) (by unfold maxLen; omega) (by omega) ?_)
 rintro p1 c1 hp1
 try simp only [List.cons_append, List.nil_append]
 simp only [Nat.zero_add, List.nil_append]
 refine LW.q rfl (Qt.assign rfl) ?_
 refine LW.done ?_
 refine T.seq ?_
 refine T.seq ?_
 refine T.region ?_
 refine LW.q rfl (Qt.move rfl) ?_
 refine LW.q rfl (Qt.max rfl rfl) ?_
 refine LW.q rfl (Qt.min rfl rfl) ?_
 refine LW.q rfl (Qt.sub rfl rfl (wr64 (by omega) (by omega))) ?_
 refine LW.q rfl (Qt.assign rfl) ?_
 refine LW.done ?_
 refine T.block ?_
 refine T.loop (fun mz fz lz => ∃ (f0 : Fr) (j : Nat) (z : Int) (acc : List UInt8) (m : Nat) (p : Option Addr) (c : Nat), (j ≤ k ∧ z = (j : Int) - 1 ∧ acc ++ be n j = b ++ be n k ∧ m + j = b.length + k) ∧ mz = j ∧ fz = (upd (upd (upd f0 1 (.int .u64 n.toNat)) 7 (.slice p m c)) 8 (.int .i64 z)) ∧ lz = [rB (.slice p m c) m acc] ++ (S ++ F)) ?_ ?_
 · refine ⟨_, _, ⟨_, k, _, b, b.length, p1, c1, ⟨Nat.le_refl _, by omega, rfl, rfl⟩, rfl, (updS rfl (updS rfl (updS rfl rfl))), rfl⟩, Sub.any⟩
 ·
  rintro mz fz lz ⟨f0, j, z, acc, m, p, c, ⟨hj, hz, hacc, hm⟩, hmz, rfl, rfl⟩
  subst mz
  try simp only [List.cons_append, List.nil_append]
  refine T.seq ?_
  refine T.seq ?_
  refine T.region ?_
  refine LW.q rfl (Qt.move rfl) ?_
  refine LW.q rfl (Qt.geq rfl rfl) ?_
  refine LW.done ?_
  refine T.condP rfl (fun hlt => ?_) (fun hlt => ?_)
  ·
   obtain ⟨q, rfl⟩ : ∃ q, j = q + 1 := ⟨j - 1, by omega⟩
   refine T.skip ?_
   refine T.seq ?_
   refine T.block ?_
   refine T.region ?_
   refine LW.q rfl (Qt.move rfl) ?_
   refine LW.q rfl (Qt.move rfl) ?_
   refine LW.q rfl (Qt.move rfl) ?_
   refine LW.q rfl (Qt.mul rfl rfl (wr64 (by omega) (by omega))) ?_
   refine LW.q rfl (Qt.shr64 (8 * q) rfl rfl (by omega) (by omega)) ?_
   refine LW.q rfl (Qt.convI (by kernel_rfl) (by kernel_rfl) rfl (wr8_nat _)) ?_
   refine LW.e rfl (Ef.one [_] (e := 5) (sz := 1) (by kernel_rfl) ⟨.int .u8 0, by kernel_rfl, rfl⟩ rfl rfl rfl (by omega) (by omega) ?_)
   intro g26
   refine LW.e rfl (Ef.append Cd.elemB rfl rfl (SrcOf.blk (by kernel_rfl) rfl (by simp [Value.oneCell'])) (by unfold maxLen; omega) (by omega) ?_)
   rintro p2 c2 hp2
   try simp only [List.cons_append, List.nil_append]
   rw [show bytesV acc ++ [Value.int .u8 (UInt8.ofNat (n.toNat / 2 ^ (8 * q))).toNat] = bytesV (acc ++ [UInt8.ofNat (n.toNat / 2 ^ (8 * q))]) by simp [bytesV]]
   refine LW.q rfl (Qt.assign rfl) ?_
   refine LW.done ?_
   refine T.region ?_
   refine LW.q rfl (Qt.move rfl) ?_
   refine LW.q rfl (Qt.sub rfl rfl (wr64 (by omega) (by omega))) ?_
   refine LW.q rfl (Qt.assign rfl) ?_
   refine LW.done ?_
   refine ⟨_, ?_, _, ⟨_, q, _, acc ++ [UInt8.ofNat (n.toNat / 2 ^ (8 * q))], m + 1, p2, c2, ⟨by omega, by omega, by rw [← hacc]; simp [be], by omega⟩, rfl, (updS rfl (updS rfl (updS rfl rfl))), rfl⟩, Sub.any⟩
   first | omega | (simp; omega)
  ·
   obtain rfl : j = 0 := by omega
   obtain rfl : acc = b ++ be n k := by simpa [be] using hacc
   obtain rfl : m = b.length + k := by omega
   refine T.exit ?_
   refine T.seq ?_
   refine T.region ?_
   refine LW.q rfl (Qt.move rfl) ?_
   refine LW.q rfl (Qt.assign rfl) ?_
   refine LW.done ?_
   refine T.ret ?_
   exact ⟨.inl rfl, _, _, res [_] rfl ⟨rvT rfl, trivial⟩, ⟨_, _, rfl, rfl⟩, Sub.any⟩
theorem RdV.rB {B : Base} {p : Option Addr} {m c : Nat} {b : List UInt8} (hm : b.length = m) (hp : 0 < m → ∃ g, p = some ⟨g, 0, none⟩) : RdV B [rB (.slice p m c) m b] (.slice p m c) (bytesV b) :=
  RdV.ofRow (e := 5) (fun _ ho => ho.row_owns) (by simp [hm]) hp
theorem ofNat_toNat {m : Nat} (h : m < 2 ^ 64) : ((UInt64.ofNat m).toNat : Int) = m := by rw [UInt64.toNat_ofNat', Nat.mod_eq_of_lt h]
theorem xor_top (id : Int) (h1 : -9223372036854775808 ≤ id) (h2 : id < 9223372036854775808) : (BitVec.ofInt 64 (IntKind.u64.wrap id) ^^^ BitVec.ofInt 64 9223372036854775808).toNat = idN id := by
  have key : ∀ u : Nat, u < 2 ^ 64 → (u ^^^ 2 ^ 63 = if u < 2 ^ 63 then u + 2 ^ 63 else u - 2 ^ 63) := fun u hu => by
    obtain ⟨c, v, hc, hv, rfl⟩ : ∃ c v, c < 2 ∧ v < 2 ^ 63 ∧ u = 2 ^ 63 * c + v := ⟨u / 2 ^ 63, u % 2 ^ 63, by omega, by omega, by omega⟩
    have e : (2 ^ 63 * c + v) ^^^ 2 ^ 63 = 2 ^ 63 * (1 - c) + v := by
      apply Nat.eq_of_testBit_eq
      intro i
      rw [Nat.testBit_xor, Nat.testBit_two_pow_mul_add _ hv, Nat.testBit_two_pow_mul_add _ hv, Nat.testBit_two_pow]
      by_cases hi : i < 63
      · rw [if_pos hi, if_pos hi]
        have : ¬ (63 = i) := by omega
        simp [this]
      · rw [if_neg hi, if_neg hi]
        rcases (by omega : c = 0 ∨ c = 1) with rfl | rfl
        · by_cases h : i = 63
          · subst h; simp
          · have : ¬ (63 = i) := by omega
            obtain ⟨w, hw⟩ : ∃ w, i - 63 = w + 1 := ⟨i - 64, by omega⟩
            rw [hw, Nat.testBit_succ, Nat.testBit_succ]
            simp [this]
        · by_cases h : i = 63
          · subst h; simp
          · have : ¬ (63 = i) := by omega
            obtain ⟨w, hw⟩ : ∃ w, i - 63 = w + 1 := ⟨i - 64, by omega⟩
            rw [hw, Nat.testBit_succ, Nat.testBit_succ]
            simp [this]
    rw [e]
    rcases (by omega : c = 0 ∨ c = 1) with rfl | rfl
    · rw [if_pos (by omega)]; omega
    · rw [if_neg (by omega)]; omega
  obtain ⟨u, hu, hlt, hmod⟩ : ∃ u : Nat, IntKind.u64.wrap id = (u : Int) ∧ u < 2 ^ 64 ∧ ((0 ≤ id ∧ (u : Int) = id) ∨ (id < 0 ∧ (u : Int) = id + 18446744073709551616)) := by
    refine ⟨(IntKind.u64.wrap id).toNat, ?_, ?_, ?_⟩ <;> simp [IntKind.wrap, IntKind.bits, IntKind.signed] <;> omega
  rw [hu, BitVec.toNat_xor, ofInt_nat, BitVec.toNat_ofNat, Nat.mod_eq_of_lt hlt]
  have e2 : (BitVec.ofInt 64 9223372036854775808).toNat = 2 ^ 63 := by decide
  rw [e2, key u hlt]
  unfold idN
  split <;> omega
set_option maxHeartbeats 1000000 in
set_option maxRecDepth 100000 in
theorem Ri.key (B : Base) (n t : Nat) (id : Int) (zn zt : Int) (hzn : zn = n) (hzt : zt = t) (hn : n < 2 ^ 62) (ht : t < 2 ^ 62) (h1 : -9223372036854775808 ≤ id) (h2 : id < 9223372036854775808) : Fn Try.prog B 63 #[.int .i64 zn, .int .i64 zt, .int .i64 id] [] (fun u l => u = kT (keyS n t id) ∧ l = []) := by
  subst hzn; subst hzt
  have hid : idN id < 2 ^ 64 := by unfold idN; omega
  have e1 := ofNat_toNat (m := n) (by omega)
  have e2 := ofNat_toNat (m := t) (by omega)
  have e3 := ofNat_toNat hid
  refine Fn.enter3 18 Try.func63 rfl rfl (Nat.le_of_ble_eq_true rfl) (fun F => ?_)
  try simp only [List.cons_append, List.nil_append]
  refine T.seq ?_
  refine T.region ?_
  refine LW.q rfl (Qt.assign rfl) ?_
  refine LW.done ?_
  refine T.seq ?_
  refine T.region ?_
  refine LW.q rfl (Qt.move rfl) ?_
  refine LW.q rfl (Qt.convI (r := ((UInt64.ofNat n).toNat : Int)) (by kernel_rfl) (by kernel_rfl) rfl (by rw [e1]; exact wru64_nat (by omega))) ?_
  refine LW.e rfl (Ef.call (Cd.put B [] (.slice none 0 0) [] 0 rfl (UInt64.ofNat n) 8 8 rfl (by omega) (RdV.nil [] 0) (by omega)) Try.func85 rfl rfl rfl ?_)
  rintro _ _ ⟨p1, c1, rfl, rfl⟩
  try simp only [List.cons_append, List.nil_append]
  refine LW.own fun w0 ho0 => ?_
  obtain ⟨g21, rfl⟩ := (ho0.slice_at (p := p1) (m := 8) (c := c1)).2.1 (by omega)
  clear ho0
  refine LW.q rfl (Qt.move rfl) ?_
  refine LW.q rfl (Qt.convI (r := ((UInt64.ofNat t).toNat : Int)) (by kernel_rfl) (by kernel_rfl) rfl (by rw [e2]; exact wru64_nat (by omega))) ?_
  refine LW.e rfl (Ef.call (Cd.put B [rB (.slice (some ⟨g21, 0, none⟩) 8 c1) 8 (be (UInt64.ofNat n) 8)] (.slice (some ⟨g21, 0, none⟩) 8 c1) (be (UInt64.ofNat n) 8) 8 (length_be _ _) (UInt64.ofNat t) 8 8 rfl (by omega) (RdV.rB (length_be _ _) (fun _ => ⟨_, rfl⟩)) (by omega)) Try.func85 rfl rfl rfl ?_)
  rintro _ _ ⟨p2, c2, rfl, rfl⟩
  try simp only [List.cons_append, List.nil_append]
  refine LW.own fun w0 ho0 => ?_
  obtain ⟨g22, rfl⟩ := (ho0.slice_at (p := p2) (m := 16) (c := c2)).2.1 (by omega)
  clear ho0
  refine LW.q rfl (Qt.move rfl) ?_
  refine LW.q rfl (Qt.convI (r := IntKind.u64.wrap id) (by kernel_rfl) (by kernel_rfl) rfl rfl) ?_
  refine LW.q rfl (Qt.bits64 (UInt64.ofNat (idN id)).toNat rfl (.inr rfl) rfl rfl (by rw [UInt64.toNat_ofNat', Nat.mod_eq_of_lt hid]; exact xor_top id h1 h2) (wru64_nat (UInt64.toNat_lt _))) ?_
  refine LW.e rfl (Ef.call (Cd.put B [rB (.slice (some ⟨g22, 0, none⟩) 16 c2) 16 (be (UInt64.ofNat n) 8 ++ be (UInt64.ofNat t) 8)] (.slice (some ⟨g22, 0, none⟩) 16 c2) (be (UInt64.ofNat n) 8 ++ be (UInt64.ofNat t) 8) 16 (by simp [length_be]) (UInt64.ofNat (idN id)) 8 8 rfl (by omega) (RdV.rB (by simp [length_be]) (fun _ => ⟨_, rfl⟩)) (by omega)) Try.func85 rfl rfl rfl ?_)
  rintro _ _ ⟨p3, c3, rfl, rfl⟩
  try simp only [List.cons_append, List.nil_append]
  refine LW.own fun w0 ho0 => ?_
  obtain ⟨g23, rfl⟩ := (ho0.slice_at (p := p3) (m := 24) (c := c3)).2.1 (by omega)
  clear ho0
  refine LW.q rfl (Qt.str (keyS n t id) (by kernel_rfl) (by kernel_rfl) rfl (fun _ ho => by have := ho.reads_row (p := some ⟨g23, 0, none⟩) (m := 24) (cap := c3) (b := be (UInt64.ofNat n) 8 ++ be (UInt64.ofNat t) 8 ++ be (UInt64.ofNat (idN id)) 8) (by simp [length_be]); rw [List.append_assoc] at this; exact this)) ?_
  refine LW.q rfl (Qt.assign rfl) ?_
  refine LW.done ?_
  refine T.ret ?_
  exact ⟨.inl rfl, _, _, res [_] rfl ⟨rvT rfl, trivial⟩, ⟨rfl, rfl⟩, Sub.any⟩
end Go.Proofs.Ytefognjcognknaa
