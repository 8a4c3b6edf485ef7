/- The texts BtA BtB BtC BtD BtE BtF BtG BtH, one behind the other: what the law leans on. Conditions: as each theorem says. -/
import Derived.Test.YtefognjcognknaaZBtreeDrains3
import Derived.Sort.Walk0
import Derived.Lib.Bytealg
import Derived.Laws.Externs
/- Strings compared; slices.BinarySearch among strings; btree's find and leaf. Conditions: sizes; that the keys rise. -/
set_option linter.unusedSimpArgs false
set_option linter.unusedVariables false
namespace Go.Proofs.Ytefognjcognknaa
open Go.RowKit
abbrev Str := List UInt8
abbrev kT (s : Str) : Value := .string (strOf s)
abbrev sl (a b : Str) : Bool := Op.bytesLess a b
theorem sl_irrefl : ∀ a : Str, sl a a = false
  | [] => rfl
  | a :: x => by simp [sl, Op.bytesLess, sl_irrefl x]
theorem sl_trans : ∀ {a b c : Str}, sl a b = true → sl b c = true → sl a c = true
  | _, [], _, h, _ => by cases ‹Str› <;> simp [sl, Op.bytesLess] at h
  | [], _ :: _, [], _, h => by simp [sl, Op.bytesLess] at h
  | [], _ :: _, _ :: _, _, _ => rfl
  | _ :: _, _ :: _, [], _, h => by simp [sl, Op.bytesLess] at h
  | a :: x, b :: y, c :: z, h, k => by
    simp only [sl, Op.bytesLess, Bool.or_eq_true, Bool.and_eq_true, decide_eq_true_eq, beq_iff_eq] at h k ⊢
    rcases h with h | ⟨rfl, h⟩
    · rcases k with k | ⟨rfl, k⟩
      · exact .inl (UInt8.lt_trans h k)
      · exact .inl h
    · rcases k with k | ⟨rfl, k⟩
      · exact .inl k
      · exact .inr ⟨rfl, sl_trans h k⟩
theorem sl_tri : ∀ {a b : Str}, sl a b = false → sl b a = false → a = b
  | [], [], _, _ => rfl
  | [], _ :: _, h, _ => by simp [sl, Op.bytesLess] at h
  | _ :: _, [], _, h => by simp [sl, Op.bytesLess] at h
  | a :: x, b :: y, h, k => by
    simp only [sl, Op.bytesLess, Bool.or_eq_false_iff, Bool.and_eq_false_iff, decide_eq_false_iff_not, beq_eq_false_iff_ne, ne_eq] at h k
    obtain ⟨h1, h2⟩ := h
    obtain ⟨k1, k2⟩ := k
    have e : a = b := UInt8.le_antisymm (UInt8.not_lt.1 k1) (UInt8.not_lt.1 h1)
    subst e
    rcases h2 with h2 | h2
    · exact absurd rfl h2
    · rcases k2 with k2 | k2
      · exact absurd rfl k2
      · rw [sl_tri h2 k2]
theorem sl_asymm {a b : Str} (h : sl a b = true) : sl b a = false := by
  cases k : sl b a with
  | false => rfl
  | true => have := sl_trans h k; rw [sl_irrefl] at this; cases this
theorem one_kT {ks : List Str} : ∀ v ∈ ks.map kT, v.oneCell' = true := by
  intro v hv
  obtain ⟨s, _, rfl⟩ := List.mem_map.1 hv
  rfl
section
variable {P : Program} {B : Base} {n : Nat} {S l : List Assn} {f : Fr}
variable {d : Option Tmp} {ty : TypeId} {pos : String} {af : Array Edge} {gd : Option (Nat × Bool)}
theorem Qt.lssB {t t2 : TypeId} {x y : Operand} {a b : List UInt8} (hx : ev n f x = some (.string (strOf a))) (hy : ev n f y = some (.string (strOf b))) : Qt P B n S ⟨d, .binOp .lss t x y t2, ty, pos, af, gd⟩ f (.bool (sl a b)) := ⟨fun w _ => by
  simp [execOp, evu_eq hx, evu_eq hy, eqGuard, Go.binOp, Op.stringOp, strOf_toList]⟩
end
theorem Bs.nan1 (B : Base) (a : Str) : Fn Try.prog B 106 #[kT a] [] (fun v l => v = .bool false ∧ l = []) := by
  refine Fn.enter1 6 Try.func106 rfl rfl (Nat.le_of_ble_eq_true rfl) (fun F => ?_)
  try simp only [List.cons_append, List.nil_append]
  refine T.seq ?_
  refine T.region ?_
  refine LW.q rfl (Qt.assign rfl) ?_
  refine LW.done ?_
  refine T.seq ?_
  refine T.region ?_
  refine LW.q rfl (Qt.move rfl) ?_
  refine LW.q rfl (Qt.move rfl) ?_
  refine LW.q rfl (Qt.neqS rfl rfl) ?_
  refine LW.q rfl (Qt.assign rfl) ?_
  refine LW.done ?_
  refine T.ret ?_
  exact ⟨.inl rfl, _, _, res [_] rfl ⟨rvT rfl, trivial⟩, ⟨by simp [outV], rfl⟩, Sub.any⟩
theorem Bs.nan2 (B : Base) (a : Str) : Fn Try.prog B 90 #[kT a] [] (fun v l => v = .bool false ∧ l = []) := by
  refine Fn.enter1 6 Try.func90 rfl rfl (Nat.le_of_ble_eq_true rfl) (fun F => ?_)
  try simp only [List.cons_append, List.nil_append]
  refine T.seq ?_
  refine T.region ?_
  refine LW.q rfl (Qt.assign rfl) ?_
  refine LW.done ?_
  refine T.seq ?_
  refine T.region ?_
  refine LW.q rfl (Qt.move rfl) ?_
  refine LW.q rfl (Qt.move rfl) ?_
  refine LW.q rfl (Qt.neqS rfl rfl) ?_
  refine LW.q rfl (Qt.assign rfl) ?_
  refine LW.done ?_
  refine T.ret ?_
  exact ⟨.inl rfl, _, _, res [_] rfl ⟨rvT rfl, trivial⟩, ⟨by simp [outV], rfl⟩, Sub.any⟩
theorem Bs.less (B : Base) (a b : Str) : Fn Try.prog B 89 #[kT a, kT b] [] (fun v l => v = .bool (sl a b) ∧ l = []) := by
  refine Fn.enter2 17 Try.func89 rfl rfl (Nat.le_of_ble_eq_true rfl) (fun F => ?_)
  try simp only [List.cons_append, List.nil_append]
  refine T.seq ?_
  refine T.region ?_
  refine LW.q rfl (Qt.assign rfl) ?_
  refine LW.done ?_
  refine T.seq ?_
  refine T.region ?_
  refine LW.q rfl (Qt.move rfl) ?_
  refine LW.e rfl (Ef.call (Bs.nan1 B a) Try.func106 rfl rfl rfl ?_)
  rintro _ _ ⟨rfl, rfl⟩
  try simp only [List.cons_append, List.nil_append]
  refine LW.q rfl (Qt.move rfl) ?_
  first | refine LW.gF (t := 7) rfl rfl ?_ | refine LW.gF (t := 7) rfl (decide_eq_false (rfl)) ?_ | refine LW.gF (t := 7) rfl (rfl) ?_
  refine LW.s rfl ?_
  refine LW.s rfl ?_
  refine LW.s rfl ?_
  refine LW.q rfl (Qt.pick rfl rfl) ?_
  refine LW.q rfl (Qt.move rfl) ?_
  first | refine LW.gF (t := 12) rfl rfl ?_ | refine LW.gF (t := 12) rfl (decide_eq_false (rfl)) ?_ | refine LW.gF (t := 12) rfl (rfl) ?_
  refine LW.q rfl (Qt.move rfl) ?_
  refine LW.q rfl (Qt.move rfl) ?_
  refine LW.q rfl (Qt.lssB rfl rfl) ?_
  refine LW.q rfl (Qt.pick rfl rfl) ?_
  refine LW.q rfl (Qt.assign rfl) ?_
  refine LW.done ?_
  refine T.ret ?_
  exact ⟨.inl rfl, _, _, res [_] rfl ⟨rvT rfl, trivial⟩, ⟨rfl, rfl⟩, Sub.any⟩

/-- The keys rise. -/
abbrev Rise (ks : List Str) : Prop := ks.Pairwise fun a b => sl a b = true
theorem Rise.at {ks : List Str} (h : Rise ks) {i j : Nat} {a b : Str} (hij : i < j) (ha : ks[i]? = some a) (hb : ks[j]? = some b) : sl a b = true := by
  obtain ⟨h1, rfl⟩ := List.getElem?_eq_some_iff.1 ha
  obtain ⟨h2, rfl⟩ := List.getElem?_eq_some_iff.1 hb
  exact List.pairwise_iff_getElem.1 h i j h1 h2 hij
/-- A key's place among keys that rise. -/
def spot (ks : List Str) (key : Str) : Nat := (ks.takeWhile fun s => sl s key).length
theorem spot_le (ks : List Str) (key : Str) : spot ks key ≤ ks.length := by
  unfold spot
  exact List.Sublist.length_le (List.takeWhile_sublist _)
theorem spot_eq : ∀ {ks : List Str} {key : Str} {i : Nat}, i ≤ ks.length → (∀ k s, k < i → ks[k]? = some s → sl s key = true) → (∀ s, ks[i]? = some s → sl s key = false) → spot ks key = i
  | [], _, i, h, _, _ => by simp at h; subst h; rfl
  | a :: ks, key, 0, _, _, h2 => by
    have := h2 a rfl
    unfold spot
    rw [List.takeWhile_cons, this]; rfl
  | a :: ks, key, i + 1, h, h1, h2 => by
    have := h1 0 a (by omega) rfl
    have ih := spot_eq (ks := ks) (key := key) (i := i) (by simp at h; omega) (fun k s hk hs => h1 (k + 1) s (by omega) (by simpa using hs)) (fun s hs => h2 s (by simpa using hs))
    unfold spot at ih ⊢
    rw [List.takeWhile_cons, this]
    simp [ih]
theorem spot_lt : ∀ {ks : List Str} {key : Str} {k : Nat} {s : Str}, k < spot ks key → ks[k]? = some s → sl s key = true
  | [], _, k, _, h, _ => by simp [spot] at h
  | a :: ks, key, k, s, h, hs => by
    unfold spot at h
    rw [List.takeWhile_cons] at h
    cases ha : sl a key with
    | false => rw [ha] at h; simp at h
    | true =>
      rw [ha] at h
      cases k with
      | zero => simp at hs; subst hs; exact ha
      | succ k =>
        simp at h hs
        exact spot_lt (ks := ks) (k := k) h hs
theorem spot_at : ∀ {ks : List Str} {key : Str} {s : Str}, ks[spot ks key]? = some s → sl s key = false
  | [], _, _, h => by simp at h
  | a :: ks, key, s, h => by
    unfold spot at h
    rw [List.takeWhile_cons] at h
    cases ha : sl a key with
    | false => rw [ha] at h; simp at h; subst h; exact ha
    | true =>
      rw [ha] at h
      simp at h
      exact spot_at (ks := ks) (key := key) h
section
variable {P : Program} {B : Base} {n : Nat} {S l : List Assn} {f : Fr}
variable {d : Option Tmp} {ty : TypeId} {pos : String} {af : Array Edge} {gd : Option (Nat × Bool)}
theorem Qt.half {t t2 : TypeId} {x y : Operand} {k : IntKind} {i z : Int} (a : Nat) (ha : a < 2 ^ 63) (hx : ev n f x = some (.int .u64 z)) (hz : z = (a : Int)) (hy : ev n f y = some (.int k i)) (hi : i = 1) : Qt P B n S ⟨d, .binOp .shr t x y t2, ty, pos, af, gd⟩ f (.int .u64 ((a / 2 : Nat) : Int)) := by
  subst hz
  have e : (a : Int) = ((UInt64.ofNat a).toNat : Int) := by simp; omega
  have := Qt.shr64 (P := P) (B := B) (n := n) (S := S) (d := d) (ty := ty) (pos := pos) (af := af) (gd := gd) (t := t) (t2 := t2) (f := f) (x := x) (y := y) (a := UInt64.ofNat a) (k := k) (i := i) 1 (by rw [← e]; exact hx) hy hi (by omega)
  have e2 : (UInt64.ofNat a).toNat / 2 ^ 1 = a / 2 := by simp; omega
  rw [e2] at this
  exact this
end
set_option maxRecDepth 100000 in
theorem Bs.search (B : Base) (S : List Assn) (v : Value) (ks : List Str) (key : Str) (m : Nat) (hm : ks.length = m) (hv : RdV B S v (ks.map kT)) (hr : Rise ks) (hb : m < 2 ^ 40) :
  Fn Try.prog B 72 #[v, kT key] S (fun u l => u = .tuple #[.int .i64 (spot ks key), .bool (decide (ks[spot ks key]? = some key))] ∧ l = S) := by
 obtain ⟨a, c, rfl⟩ := hv.form (m := m) (by simp [hm])
 refine Fn.enter2 54 Try.func72 rfl rfl (Nat.le_of_ble_eq_true rfl) (fun F => ?_)
 try simp only [List.cons_append, List.nil_append]
 refine T.seq ?_
 refine T.region ?_
 refine LW.q rfl (Qt.assign rfl) ?_
 refine LW.q rfl (Qt.assign rfl) ?_
 refine LW.done ?_
 refine T.seq ?_
 refine T.region ?_
 refine LW.q rfl (Qt.move rfl) ?_
 refine LW.q rfl (Qt.len (e := 9) (sz := 1) (by kernel_rfl) rfl) ?_
 refine LW.q rfl (Qt.assign rfl) ?_
 refine LW.done ?_
 refine T.seq ?_
 refine T.region ?_
 refine LW.q rfl (Qt.move rfl) ?_
 refine LW.q rfl (Qt.assign rfl) ?_
 refine LW.q rfl (Qt.assign rfl) ?_
 refine LW.done ?_
 refine T.seq ?_
 refine T.block ?_
 refine T.loop (fun mz fz lz => ∃ (f0 : Fr) (i j : Nat), (i ≤ j ∧ j ≤ m ∧ (∀ k s, k < i → ks[k]? = some s → sl s key = true) ∧ (∀ k s, j ≤ k → ks[k]? = some s → sl s key = false)) ∧ mz = j - i ∧ fz = (upd (upd (upd (upd (upd f0 0 (.slice a m c)) 1 (kT key)) 6 (.int .i64 m)) 7 (.int .i64 i)) 8 (.int .i64 j)) ∧ lz = S ++ F) ?_ ?_
 · refine ⟨_, _, ⟨_, 0, m, ⟨Nat.zero_le _, Nat.le_refl _, fun k s h => by omega, fun k s h hs => by rw [List.getElem?_eq_none (by omega)] at hs; cases hs⟩, rfl, (updS rfl (updS rfl (updS rfl (updS rfl (updS rfl rfl))))), rfl⟩, Sub.any⟩
 ·
  rintro mz fz lz ⟨f0, i, j, ⟨h1, h2, h3, h4⟩, hmz, rfl, rfl⟩
  subst mz
  try simp only [List.cons_append, List.nil_append]
  refine T.seq ?_
  refine T.seq ?_
  refine T.region ?_
  refine LW.q rfl (Qt.move rfl) ?_
  refine LW.q rfl (Qt.move rfl) ?_
  refine LW.q rfl (Qt.lss rfl rfl) ?_
  refine LW.done ?_
  refine T.condP rfl (fun hlt => ?_) (fun hlt => ?_)
  ·
   have hh : (i + j) / 2 < m := by omega
   obtain ⟨b0, o0, rfl, hc0⟩ := hv.at (by omega)
   have hat : ks[(i + j) / 2]? = some ks[(i + j) / 2] := List.getElem?_eq_getElem (by omega)
   refine T.skip ?_
   refine T.block ?_
   refine T.seq ?_
   refine T.region ?_
   refine LW.q rfl (Qt.move rfl) ?_
   refine LW.q rfl (Qt.move rfl) ?_
   refine LW.q rfl (Qt.add rfl rfl (wr64 (by omega) (by omega))) ?_
   refine LW.q rfl (Qt.convI (by kernel_rfl) (by kernel_rfl) rfl (wru64 (by omega) (by omega))) ?_
   refine LW.q rfl (Qt.half (i + j) (by omega) rfl (by omega) rfl rfl) ?_
   refine LW.q rfl (Qt.convI (by kernel_rfl) (by kernel_rfl) rfl (wr64 (by omega) (by omega))) ?_
   refine LW.q rfl (Qt.assign rfl) ?_
   refine LW.done ?_
   refine T.seq ?_
   refine T.region ?_
   refine LW.q rfl (Qt.move rfl) ?_
   refine LW.q rfl (Qt.move rfl) ?_
   refine LW.q rfl (Qt.index _ (e := 9) (sz := 1) (by kernel_rfl) rfl rfl rfl (by omega)) ?_
   refine LW.q rfl (Qt.loadW (v := kT ks[(i + j) / 2]) (by kernel_rfl) rfl (fun w ho => by have := hc0 ((i + j) / 2) (by simp; omega) w ho.drop; rw [List.getElem_map] at this; exact this)) ?_
   refine LW.q rfl (Qt.move rfl) ?_
   refine LW.e rfl (Ef.call (Bs.less B ks[(i + j) / 2] key) Try.func89 rfl rfl rfl ?_)
   rintro _ _ ⟨rfl, rfl⟩
   try simp only [List.cons_append, List.nil_append]
   refine LW.done ?_
   refine T.cond rfl (fun hless => ?_) (fun hless => ?_)
   ·
    refine T.region ?_
    refine LW.q rfl (Qt.move rfl) ?_
    refine LW.q rfl (Qt.add rfl rfl (wr64 (by omega) (by omega))) ?_
    refine LW.q rfl (Qt.assign rfl) ?_
    refine LW.done ?_
    refine ⟨_, ?_, _, ⟨_, (i + j) / 2 + 1, j, ⟨by omega, h2, fun k s hk hs => (Nat.lt_or_eq_of_le (Nat.le_of_lt_succ hk)).elim (fun hk => sl_trans (hr.at hk hs hat) hless) (fun hk => by subst hk; rw [hat] at hs; cases hs; exact hless), h4⟩, rfl, (updS rfl (updS rfl (updS rfl (updS rfl (updS rfl rfl))))), rfl⟩, Sub.any⟩
    first | omega | (simp; omega)
   ·
    refine T.region ?_
    refine LW.q rfl (Qt.move rfl) ?_
    refine LW.q rfl (Qt.assign rfl) ?_
    refine LW.done ?_
    refine ⟨_, ?_, _, ⟨_, i, (i + j) / 2, ⟨by omega, by omega, h3, fun k s hk hs => (Nat.lt_or_eq_of_le hk).elim (fun hk => Bool.eq_false_iff.2 fun e => by rw [sl_trans (hr.at hk hat hs) e] at hless; cases hless) (fun hk => by subst hk; rw [hat] at hs; cases hs; exact hless)⟩, rfl, (updS rfl (updS rfl (updS rfl (updS rfl (updS rfl rfl))))), rfl⟩, Sub.any⟩
    first | omega | (simp; omega)
  ·
   obtain rfl : i = j := by omega
   have hsp : spot ks key = i := spot_eq (by omega) h3 (fun s hs => h4 i s (Nat.le_refl _) hs)
   refine T.exit ?_
   refine T.seq ?_
   refine T.region ?_
   refine LW.q rfl (Qt.move rfl) ?_
   refine LW.q rfl (Qt.move rfl) ?_
   refine LW.q rfl (Qt.move rfl) ?_
   refine LW.q rfl (Qt.lss rfl rfl) ?_
   refine LW.q rfl (Qt.move rfl) ?_
   refine LW.split (t := 35) rfl (fun hin => ?_) (fun hin => ?_)
   ·
    try replace hin := of_decide_eq_true hin
    obtain ⟨b0, o0, rfl, hc0⟩ := hv.at (by omega)
    refine LW.q rfl (Qt.move rfl) ?_
    refine LW.q rfl (Qt.move rfl) ?_
    refine LW.q rfl (Qt.index _ (e := 9) (sz := 1) (by kernel_rfl) rfl rfl rfl (by omega)) ?_
    refine LW.q rfl (Qt.loadW (v := kT ks[i]) (by kernel_rfl) rfl (fun w ho => by have := hc0 i (by simp; omega) w ho.drop; rw [List.getElem_map] at this; exact this)) ?_
    refine LW.q rfl (Qt.move rfl) ?_
    refine LW.q rfl (Qt.eqlS rfl rfl) ?_
    refine LW.q rfl (Qt.move rfl) ?_
    refine LW.split (t := 42) rfl (fun hfound => ?_) (fun hfound => ?_)
    ·
     try replace hfound := of_decide_eq_true hfound
     refine LW.s rfl ?_
     refine LW.s rfl ?_
     refine LW.s rfl ?_
     refine LW.s rfl ?_
     refine LW.s rfl ?_
     refine LW.s rfl ?_
     refine LW.s rfl ?_
     refine LW.s rfl ?_
     refine LW.s rfl ?_
     refine LW.q rfl (Qt.pick rfl rfl) ?_
     refine LW.q rfl (Qt.pick rfl rfl) ?_
     refine LW.q rfl (Qt.assign rfl) ?_
     refine LW.q rfl (Qt.assign rfl) ?_
     refine LW.done ?_
     refine T.ret ?_
     exact ⟨.inl rfl, _, _, res [_, _] rfl ⟨rvT rfl, rvT rfl, trivial⟩, ⟨by rw [hsp, List.getElem?_eq_getElem (by omega), hfound]; simp [outV], rfl⟩, Sub.any⟩
    ·
     try replace hfound := of_decide_eq_false hfound
     refine LW.q rfl (Qt.move rfl) ?_
     refine LW.q rfl (Qt.move rfl) ?_
     refine LW.q rfl (Qt.index _ (e := 9) (sz := 1) (by kernel_rfl) rfl rfl rfl (by omega)) ?_
     refine LW.q rfl (Qt.loadW (v := kT ks[i]) (by kernel_rfl) rfl (fun w ho => by have := hc0 i (by simp; omega) w ho.drop; rw [List.getElem_map] at this; exact this)) ?_
     refine LW.e rfl (Ef.call (Bs.nan2 B ks[i]) Try.func90 rfl rfl rfl ?_)
     rintro _ _ ⟨rfl, rfl⟩
     try simp only [List.cons_append, List.nil_append]
     refine LW.q rfl (Qt.move rfl) ?_
     first | refine LW.gF (t := 48) rfl rfl ?_ | refine LW.gF (t := 48) rfl (decide_eq_false (rfl)) ?_ | refine LW.gF (t := 48) rfl (rfl) ?_
     refine LW.s rfl ?_
     refine LW.s rfl ?_
     refine LW.q rfl (Qt.pick rfl rfl) ?_
     refine LW.q rfl (Qt.pick rfl rfl) ?_
     refine LW.q rfl (Qt.pick rfl rfl) ?_
     refine LW.q rfl (Qt.assign rfl) ?_
     refine LW.q rfl (Qt.assign rfl) ?_
     refine LW.done ?_
     refine T.ret ?_
     exact ⟨.inl rfl, _, _, res [_, _] rfl ⟨rvT rfl, rvT rfl, trivial⟩, ⟨by rw [hsp, List.getElem?_eq_getElem (by omega)]; simp [outV, hfound], rfl⟩, Sub.any⟩
   ·
    try replace hin := of_decide_eq_false hin
    refine LW.s rfl ?_
    refine LW.s rfl ?_
    refine LW.s rfl ?_
    refine LW.s rfl ?_
    refine LW.s rfl ?_
    refine LW.s rfl ?_
    refine LW.s rfl ?_
    refine LW.s rfl ?_
    refine LW.s rfl ?_
    refine LW.s rfl ?_
    refine LW.s rfl ?_
    refine LW.s rfl ?_
    refine LW.s rfl ?_
    refine LW.s rfl ?_
    refine LW.s rfl ?_
    refine LW.s rfl ?_
    refine LW.s rfl ?_
    refine LW.q rfl (Qt.pick rfl rfl) ?_
    refine LW.q rfl (Qt.assign rfl) ?_
    refine LW.q rfl (Qt.assign rfl) ?_
    refine LW.done ?_
    refine T.ret ?_
    exact ⟨.inl rfl, _, _, res [_, _] rfl ⟨rvT rfl, rvT rfl, trivial⟩, ⟨by rw [hsp, List.getElem?_eq_none (by omega)]; simp [outV], rfl⟩, Sub.any⟩
end Go.Proofs.Ytefognjcognknaa

/- strings.Compare. Conditions: none. -/
set_option linter.unusedSimpArgs false
set_option linter.unusedVariables false
namespace Go.Proofs.Ytefognjcognknaa
open Go.RowKit
section
variable {P : Program} {B : Base} {n : Nat} {l : List Assn} {f : Fr} {K : Value → List Assn → Prop}
variable {d : Option Tmp} {ty : TypeId} {pos : String} {af : Array Edge} {gd : Option (Nat × Bool)}
theorem Ef.cmpS {g : FuncId} {fn : Func} {x y : Operand} {ats : Array TypeId} {a b : List UInt8} (hf : P.funcs[g]? = some fn) (hname : (fn.name == "runtime.NumGoroutine") = false) (hb : fn.body.isNone = true) (hn : Extern.findNext fn = none)
    (he : Extern.find fn = some Extern.BytealgCompare.compare) (hx : ev n f x = some (.string (strOf a))) (hy : ev n f y = some (.string (strOf b)))
    (h : K (.int .i64 (Lib.compareBytes a b)) l) : Ef P B n ⟨d, .call ⟨.value (.func g), #[x, y], ats⟩, ty, pos, af, gd⟩ f l K := ⟨fun w next Q ho hk => by
  have hav : (#[x, y] : Array Operand).map (evu n f) = #[.string (strOf a), .string (strOf b)] := by simp [evu_eq hx, evu_eq hy]
  have hrun := Lib.run_compareString (P := P) (strOf a) (strOf b) w
  have hcf := run_callFunc_extern (P := P) hf hname hb hn he #[.string (strOf a), .string (strOf b)] w
  rw [hrun] at hcf
  unfold Oper.wp execOp
  rw [eval_act']
  have he2 : ((do let c ← resolve (evu n f) ⟨.value (.func g), #[x, y], ats⟩ ty; invoke c.target c.args) : Sem Next).run P w = .ok (.value (.int .i64 (Lib.compareBytes a b))) w := by
    have hg : evu n f (.func g) = .func (.func g) #[] #[] := rfl
    simp only [resolve, hav, hg]
    simp [Deferred.ofValue, invoke, hcf]
    rfl
  rw [he2]
  exact hk _ w _ h ho⟩
end
theorem cmp_sl : ∀ a b : Str, (0 ≤ Lib.compareBytes a b) ↔ sl a b = false
  | [], [] => by simp [Lib.compareBytes, sl, Op.bytesLess]
  | [], _ :: _ => by simp [Lib.compareBytes, sl, Op.bytesLess]
  | _ :: _, [] => by simp [Lib.compareBytes, sl, Op.bytesLess]
  | a :: x, b :: y => by
    have ih := cmp_sl x y
    unfold sl at ih ⊢
    simp only [Lib.compareBytes, Op.bytesLess]
    by_cases h1 : a < b
    · simp [h1]
    · by_cases h2 : b < a
      · have : a ≠ b := fun e => by subst e; exact h1 h2
        simp [h1, h2, this]
      · have e : a = b := UInt8.le_antisymm (UInt8.not_lt.1 h2) (UInt8.not_lt.1 h1)
        subst e
        simp [h1, ih]
theorem Bs.cmp1 (B : Base) (a b : Str) : Fn Try.prog B 94 #[kT a, kT b] [] (fun v l => v = .int .i64 (Lib.compareBytes a b) ∧ l = []) := by
  refine Fn.enter2 8 Try.func94 rfl rfl (Nat.le_of_ble_eq_true rfl) (fun F => ?_)
  try simp only [List.cons_append, List.nil_append]
  refine T.seq ?_
  refine T.region ?_
  refine LW.q rfl (Qt.assign rfl) ?_
  refine LW.done ?_
  refine T.seq ?_
  refine T.region ?_
  refine LW.q rfl (Qt.move rfl) ?_
  refine LW.q rfl (Qt.move rfl) ?_
  refine LW.e rfl (Ef.cmpS Try.func109 (by kernel_rfl) (by kernel_rfl) (by kernel_rfl) (by kernel_rfl) rfl rfl ?_)
  refine LW.q rfl (Qt.assign rfl) ?_
  refine LW.done ?_
  refine T.ret ?_
  exact ⟨.inl rfl, _, _, res [_] rfl ⟨rvT rfl, trivial⟩, ⟨rfl, rfl⟩, Sub.any⟩
theorem Bs.cmp (B : Base) (a b : Str) : Fn Try.prog B 82 #[kT a, kT b] [] (fun v l => v = .int .i64 (Lib.compareBytes a b) ∧ l = []) := by
  refine Fn.enter2 8 Try.func82 rfl rfl (Nat.le_of_ble_eq_true rfl) (fun F => ?_)
  try simp only [List.cons_append, List.nil_append]
  refine T.seq ?_
  refine T.region ?_
  refine LW.q rfl (Qt.assign rfl) ?_
  refine LW.done ?_
  refine T.seq ?_
  refine T.region ?_
  refine LW.q rfl (Qt.move rfl) ?_
  refine LW.q rfl (Qt.move rfl) ?_
  refine LW.e rfl (Ef.call (Bs.cmp1 B a b) Try.func94 rfl rfl rfl ?_)
  rintro _ _ ⟨rfl, rfl⟩
  try simp only [List.cons_append, List.nil_append]
  refine LW.q rfl (Qt.assign rfl) ?_
  refine LW.done ?_
  refine T.ret ?_
  exact ⟨.inl rfl, _, _, res [_] rfl ⟨rvT rfl, trivial⟩, ⟨rfl, rfl⟩, Sub.any⟩
end Go.Proofs.Ytefognjcognknaa

/- btree's trees: what they are, where they lie, paths into them. Conditions: none. -/
set_option linter.unusedSimpArgs false
set_option linter.unusedVariables false
namespace Go.Proofs.Ytefognjcognknaa
open Go.RowKit
abbrev iV (x : Int) : Value := .int .i64 x
abbrev pV (p : Nat) : Value := .pointer (some ⟨p, 0, none⟩)
/-- A node: where it lies, its pairs, its slices' places and capacities. -/
structure Nd where
  p : Nat
  kv : List (Str × Int)
  ka : Option Addr
  kc : Nat
  va : Option Addr
  vc : Nat
  ca : Option Addr
  cc : Nat
abbrev Nd.ks (x : Nd) : List Str := x.kv.map (·.1)
abbrev Nd.vs (x : Nd) : List Int := x.kv.map (·.2)
abbrev ndB (x : Nd) (m : Nat) : Assn := blk x.p [.slice x.ka x.kv.length x.kc, .slice x.va x.kv.length x.vc, .slice x.ca m x.cc] 98
abbrev ndK (x : Nd) : Assn := row (.slice x.ka x.kv.length x.kc) 9 1 x.kv.length (x.ks.map kT)
abbrev ndV (x : Nd) : Assn := row (.slice x.va x.kv.length x.vc) 2 1 x.kv.length (x.vs.map iV)
abbrev ndC (x : Nd) (ps : List Nat) : Assn := row (.slice x.ca ps.length x.cc) 95 1 ps.length (ps.map pV)
abbrev nodeL (x : Nd) (ps : List Nat) : List Assn := [ndB x ps.length, ndK x, ndV x, ndC x ps]
/-- A tree of a height, with its places. -/
def LT : Nat → Type
  | 0 => Nd
  | h + 1 => Nd × List (LT h)
def LT.nd : (h : Nat) → LT h → Nd
  | 0, x => x
  | _ + 1, t => t.1
def LT.sub : (h : Nat) → LT (h + 1) → List (LT h)
  | _, t => t.2
def LT.kp : (h : Nat) → LT h → List Nat
  | 0, _ => []
  | h + 1, t => t.2.map fun k => (LT.nd h k).p
def treeA : (h : Nat) → LT h → Assn
  | 0, x => sepL (nodeL x [])
  | h + 1, t => sepL (nodeL t.1 (t.2.map fun k => (LT.nd h k).p) ++ [sepL (t.2.map (treeA h))])
def restA : (h : Nat) → LT h → Assn
  | 0, _ => pu True
  | h + 1, t => sepL (t.2.map (treeA h))
abbrev treeL (h : Nat) (t : LT h) : List Assn := [ndB (LT.nd h t) (LT.kp h t).length, ndK (LT.nd h t), ndV (LT.nd h t), ndC (LT.nd h t) (LT.kp h t), restA h t]
theorem Has.openT : ∀ {h : Nat} {t : LT h} {m : List Assn} {k : Piece}, Has (treeA h t :: m) k → Has (treeL h t ++ m) k
  | 0, t, m, k, H => by
    have H1 := Has.open_sepL (l := nodeL t []) H
    exact Has.cons_imp (fun _ H => Has.cons_imp (fun _ H => Has.cons_imp (fun _ H => Has.cons_imp (fun _ H => Has.close_pu trivial H) H) H) H) H1
  | h + 1, t, m, k, H => by
    have H1 := Has.open_sepL (l := nodeL t.1 (t.2.map fun k => (LT.nd h k).p) ++ [sepL (t.2.map (treeA h))]) H
    exact H1
theorem Has.closeT : ∀ {h : Nat} {t : LT h} {m : List Assn} {k : Piece}, Has (treeL h t ++ m) k → Has (treeA h t :: m) k
  | 0, t, m, k, H => by
    refine Has.close_sepL (l := nodeL t []) ?_
    exact Has.cons_imp (fun _ H => Has.cons_imp (fun _ H => Has.cons_imp (fun _ H => Has.cons_imp (fun _ H => H.tail) H) H) H) H
  | h + 1, t, m, k, H => Has.close_sepL (l := nodeL t.1 (t.2.map fun k => (LT.nd h k).p) ++ [sepL (t.2.map (treeA h))]) H
/-- Kids, one of them apart. -/
theorem Has.kid_out {h : Nat} {L1 L2 : List (LT h)} {t : LT h} {m : List Assn} {k : Piece} (H : Has (sepL ((L1 ++ t :: L2).map (treeA h)) :: m) k) : Has (treeA h t :: sepL (L1.map (treeA h)) :: sepL (L2.map (treeA h)) :: m) k := by
  have H1 := Has.open_sepL H
  rw [List.map_append, List.map_cons, List.append_assoc, List.cons_append] at H1
  have H2 := Has.over H1
  refine Has.cons_imp (fun _ K => ?_) H2
  refine Has.close_sepL ?_
  obtain ⟨k1, k2, d, a, b, K1, K2⟩ := Has.split K
  exact Has.join d a b K1 (Has.close_sepL K2)
theorem Has.kid_in {h : Nat} {L1 L2 : List (LT h)} {t : LT h} {m : List Assn} {k : Piece} (H : Has (treeA h t :: sepL (L1.map (treeA h)) :: sepL (L2.map (treeA h)) :: m) k) : Has (sepL ((L1 ++ t :: L2).map (treeA h)) :: m) k := by
  refine Has.close_sepL ?_
  rw [List.map_append, List.map_cons, List.append_assoc, List.cons_append]
  refine Has.under (Has.cons_imp (fun _ K => ?_) H)
  have K1 := Has.open_sepL K
  obtain ⟨k1, k2, d, a, b, K1, K2⟩ := Has.split K1
  exact Has.join d a b K1 (Has.open_sepL K2)
/-- A path from a tree's root to a place within it. -/
inductive Cx (H : Nat) : Nat → Type
  | top : Cx H H
  | down {h : Nat} (c : Cx H (h + 1)) (x : Nd) (L1 L2 : List (LT h)) : Cx H h
def Cx.plug {H : Nat} : {h : Nat} → Cx H h → LT h → LT H
  | _, .top, t => t
  | _, .down c x L1 L2, t => c.plug (h := _) (show LT (_ + 1) from (x, L1 ++ t :: L2))
def cxA {H : Nat} : {h : Nat} → Cx H h → Nat → Assn
  | _, .top, _ => pu True
  | _, .down (h := h) c x L1 L2, p => sepL (nodeL x (L1.map (fun k => (LT.nd h k).p) ++ p :: L2.map (fun k => (LT.nd h k).p)) ++ [sepL (L1.map (treeA h)), sepL (L2.map (treeA h)), cxA c x.p])
theorem Has.plug {H : Nat} : ∀ {h : Nat} {c : Cx H h} {t : LT h} {m : List Assn} {k : Piece}, Has (treeA h t :: cxA c (LT.nd h t).p :: m) k → Has (treeA H (c.plug t) :: m) k
  | _, .top, t, m, k, K => Has.cons_imp (fun _ K => K.tail) K
  | h, .down c x L1 L2, t, m, k, K => by
    refine Has.plug (c := c) (t := (show LT (h + 1) from (x, L1 ++ t :: L2))) ?_
    have K1 := Has.open_sepL (l := nodeL x (L1.map (fun k => (LT.nd h k).p) ++ (LT.nd h t).p :: L2.map (fun k => (LT.nd h k).p)) ++ [sepL (L1.map (treeA h)), sepL (L2.map (treeA h)), cxA c x.p]) (Has.swap K |> fun K => Has.cons_imp (fun _ K => K) K)
    have K2 : Has (nodeL x (L1.map (fun k => (LT.nd h k).p) ++ (LT.nd h t).p :: L2.map (fun k => (LT.nd h k).p)) ++ (sepL (L1.map (treeA h)) :: sepL (L2.map (treeA h)) :: cxA c x.p :: treeA h t :: m)) k := K1
    refine Has.closeT (t := (show LT (h + 1) from (x, L1 ++ t :: L2))) ?_
    have e : (L1 ++ t :: L2).map (fun k => (LT.nd h k).p) = L1.map (fun k => (LT.nd h k).p) ++ (LT.nd h t).p :: L2.map (fun k => (LT.nd h k).p) := by simp
    show Has (nodeL x ((L1 ++ t :: L2).map fun k => (LT.nd h k).p) ++ (sepL ((L1 ++ t :: L2).map (treeA h)) :: cxA c x.p :: m)) k
    rw [e]
    refine Has.cons_imp (fun _ K => Has.cons_imp (fun _ K => Has.cons_imp (fun _ K => Has.cons_imp (fun _ K => ?_) K) K) K) K2
    refine Has.kid_in ?_
    have K3 := Has.over (m := [sepL (L1.map (treeA h)), sepL (L2.map (treeA h)), cxA c x.p]) K
    exact K3
/-- Down by one kid. -/
theorem Has.descend {H h : Nat} {c : Cx H (h + 1)} {x : Nd} {L1 L2 : List (LT h)} {t : LT h} {m : List Assn} {k : Piece} (K : Has (treeL (h + 1) (show LT (h + 1) from (x, L1 ++ t :: L2)) ++ cxA c x.p :: m) k) : Has (treeA h t :: cxA (.down c x L1 L2) (LT.nd h t).p :: m) k := by
  have e : (L1 ++ t :: L2).map (fun k => (LT.nd h k).p) = L1.map (fun k => (LT.nd h k).p) ++ (LT.nd h t).p :: L2.map (fun k => (LT.nd h k).p) := by simp
  have K1 : Has (nodeL x ((L1 ++ t :: L2).map fun k => (LT.nd h k).p) ++ (sepL ((L1 ++ t :: L2).map (treeA h)) :: cxA c x.p :: m)) k := K
  rw [e] at K1
  refine Has.swap ?_
  refine Has.close_sepL (l := nodeL x (L1.map (fun k => (LT.nd h k).p) ++ (LT.nd h t).p :: L2.map (fun k => (LT.nd h k).p)) ++ [sepL (L1.map (treeA h)), sepL (L2.map (treeA h)), cxA c x.p]) ?_
  have K2 := Has.cons_imp (fun _ K => Has.cons_imp (fun _ K => Has.cons_imp (fun _ K => Has.cons_imp (fun _ K => Has.kid_out K) K) K) K) K1
  refine Has.cons_imp (fun _ K => Has.cons_imp (fun _ K => Has.cons_imp (fun _ K => Has.cons_imp (fun _ K => ?_) K) K) K) K2
  exact Has.under (m := [sepL (L1.map (treeA h)), sepL (L2.map (treeA h)), cxA c x.p]) K
/-! what a tree says -/
def inter {α : Type} : List (List α) → List α → List α
  | [], _ => []
  | k :: _, [] => k
  | k :: ks, v :: vs => k ++ v :: inter ks vs
def toL : (h : Nat) → LT h → List (Str × Int)
  | 0, x => x.kv
  | h + 1, t => inter (t.2.map (toL h)) t.1.kv
/-- Sizes: a node below the root has order - 1 keys at least, each 2 order - 1 at most; one kid more than keys. -/
def okT (o : Nat) : (h : Nat) → Bool → LT h → Prop
  | 0, r, x => x.kv.length ≤ 2 * o - 1 ∧ (r = false → o - 1 ≤ x.kv.length)
  | h + 1, r, t => t.1.kv.length ≤ 2 * o - 1 ∧ (r = false → o - 1 ≤ t.1.kv.length) ∧ (r = true → 1 ≤ t.1.kv.length) ∧ t.2.length = t.1.kv.length + 1 ∧ ∀ k ∈ t.2, okT o h false k
end Go.Proofs.Ytefognjcognknaa

/- btree: find, leaf, most, least, Len, New, Get. Conditions: sizes; that the keys rise. -/
set_option linter.unusedSimpArgs false
set_option linter.unusedVariables false
namespace Go.Proofs.Ytefognjcognknaa
open Go.RowKit
theorem Bt.find (B : Base) (x : Nd) (m : Nat) (key : Str) (hr : Rise x.ks) (hb : x.kv.length < 2 ^ 40) :
    Fn Try.prog B 44 #[pV x.p, kT key] [ndB x m, ndK x] (fun u l => u = .tuple #[.int .i64 (spot x.ks key), .bool (decide (x.ks[spot x.ks key]? = some key))] ∧ l = [ndB x m, ndK x]) := by
  refine Fn.enter2 14 Try.func44 rfl rfl (Nat.le_of_ble_eq_true rfl) (fun F => ?_)
  try simp only [List.cons_append, List.nil_append]
  refine T.own fun w0 ho0 => ?_
  have hp := (ho0.slice_at (p := x.ka) (m := x.kv.length) (c := x.kc) (k := x.kv.length)).2.1
  clear ho0
  refine T.seq ?_
  refine T.region ?_
  refine LW.q rfl (Qt.assign rfl) ?_
  refine LW.q rfl (Qt.assign rfl) ?_
  refine LW.done ?_
  refine T.seq ?_
  refine T.region ?_
  refine LW.q rfl (Qt.move rfl) ?_
  refine LW.q rfl (Qt.nilCheck rfl) ?_
  refine LW.q rfl (Qt.fieldAddr0 (by kernel_rfl) rfl) ?_
  first | refine LW.q rfl (Qt.load (by kernel_rfl) rfl rfl) ?_ | refine LW.q rfl (Qt.load (by kernel_rfl) rfl (map_at _ _ _ (by omega))) ?_ | refine LW.q rfl (Qt.load (by kernel_rfl) rfl (flat_cell0 _ _ _ (by intros; rfl) _ (by omega) (by rfl))) ?_ | refine LW.q rfl (Qt.load (by kernel_rfl) rfl (flat_cell _ _ _ (by intros; rfl) _ _ (by omega) (by rfl))) ?_ | refine LW.q rfl (Qt.load (by kernel_rfl) rfl (bytes_at _ _ (by omega))) ?_
  refine LW.q rfl (Qt.move rfl) ?_
  refine LW.e rfl (Ef.call (Bs.search B [ndK x] (.slice x.ka x.kv.length x.kc) x.ks key x.kv.length (by simp) (RdV.ofRow (e := 9) (fun _ ho => ho.row_owns) (by simp) hp) hr hb) Try.func72 rfl rfl rfl ?_)
  rintro _ _ ⟨rfl, rfl⟩
  try simp only [List.cons_append, List.nil_append]
  refine LW.q rfl (Qt.extr rfl rfl) ?_
  refine LW.q rfl (Qt.extr rfl rfl) ?_
  refine LW.q rfl (Qt.assign rfl) ?_
  refine LW.q rfl (Qt.assign rfl) ?_
  refine LW.done ?_
  refine T.ret ?_
  exact ⟨.inl rfl, _, _, res [_, _] rfl ⟨rvT rfl, rvT rfl, trivial⟩, ⟨rfl, rfl⟩, Sub.any⟩
theorem Bt.leaf (B : Base) (x : Nd) (m : Nat) : Fn Try.prog B 45 #[pV x.p] [ndB x m] (fun u l => u = .bool (decide ((m : Int) = 0)) ∧ l = [ndB x m]) := by
  refine Fn.enter1 9 Try.func45 rfl rfl (Nat.le_of_ble_eq_true rfl) (fun F => ?_)
  try simp only [List.cons_append, List.nil_append]
  refine T.seq ?_
  refine T.region ?_
  refine LW.q rfl (Qt.assign rfl) ?_
  refine LW.done ?_
  refine T.seq ?_
  refine T.region ?_
  refine LW.q rfl (Qt.move rfl) ?_
  refine LW.q rfl (Qt.nilCheck rfl) ?_
  refine LW.q rfl (Qt.fieldAddr (off := 2) (by kernel_rfl) rfl) ?_
  first | refine LW.q rfl (Qt.load (by kernel_rfl) rfl rfl) ?_ | refine LW.q rfl (Qt.load (by kernel_rfl) rfl (map_at _ _ _ (by omega))) ?_ | refine LW.q rfl (Qt.load (by kernel_rfl) rfl (flat_cell0 _ _ _ (by intros; rfl) _ (by omega) (by rfl))) ?_ | refine LW.q rfl (Qt.load (by kernel_rfl) rfl (flat_cell _ _ _ (by intros; rfl) _ _ (by omega) (by rfl))) ?_ | refine LW.q rfl (Qt.load (by kernel_rfl) rfl (bytes_at _ _ (by omega))) ?_
  refine LW.q rfl (Qt.len (e := 95) (sz := 1) (by kernel_rfl) rfl) ?_
  refine LW.q rfl (Qt.eql rfl rfl) ?_
  refine LW.q rfl (Qt.assign rfl) ?_
  refine LW.done ?_
  refine T.ret ?_
  exact ⟨.inl rfl, _, _, res [_] rfl ⟨rvT rfl, trivial⟩, ⟨rfl, rfl⟩, Sub.any⟩
theorem Bt.most (B : Base) (o : Nat) (ho : o < 2 ^ 40) : Fn Try.prog B 42 #[.agg #[.int .i64 o]] [] (fun u l => u = .int .i64 (2 * o - 1) ∧ l = []) := by
  refine Fn.enter1 7 Try.func42 rfl rfl (Nat.le_of_ble_eq_true rfl) (fun F => ?_)
  try simp only [List.cons_append, List.nil_append]
  refine T.seq ?_
  refine T.region ?_
  refine LW.e rfl (Ef.box [_] rfl rfl ?_)
  intro g1
  refine LW.q rfl (Qt.assign rfl) ?_
  refine LW.done ?_
  refine T.seq ?_
  refine T.region ?_
  refine LW.q rfl (Qt.fieldAddr0 (by kernel_rfl) rfl) ?_
  first | refine LW.q rfl (Qt.load (by kernel_rfl) rfl rfl) ?_ | refine LW.q rfl (Qt.load (by kernel_rfl) rfl (map_at _ _ _ (by omega))) ?_ | refine LW.q rfl (Qt.load (by kernel_rfl) rfl (flat_cell0 _ _ _ (by intros; rfl) _ (by omega) (by rfl))) ?_ | refine LW.q rfl (Qt.load (by kernel_rfl) rfl (flat_cell _ _ _ (by intros; rfl) _ _ (by omega) (by rfl))) ?_ | refine LW.q rfl (Qt.load (by kernel_rfl) rfl (bytes_at _ _ (by omega))) ?_
  refine LW.q rfl (Qt.mul rfl rfl (wr64 (by omega) (by omega))) ?_
  refine LW.q rfl (Qt.sub rfl rfl (wr64 (by omega) (by omega))) ?_
  refine LW.q rfl (Qt.assign rfl) ?_
  refine LW.done ?_
  refine T.ret ?_
  exact ⟨.inl rfl, _, _, res [_] rfl ⟨rvT rfl, trivial⟩, ⟨rfl, rfl⟩, Sub.any⟩
theorem Bt.least (B : Base) (o : Nat) (ho : o < 2 ^ 40) : Fn Try.prog B 80 #[.agg #[.int .i64 o]] [] (fun u l => u = .int .i64 (o - 1) ∧ l = []) := by
  refine Fn.enter1 6 Try.func80 rfl rfl (Nat.le_of_ble_eq_true rfl) (fun F => ?_)
  try simp only [List.cons_append, List.nil_append]
  refine T.seq ?_
  refine T.region ?_
  refine LW.e rfl (Ef.box [_] rfl rfl ?_)
  intro g1
  refine LW.q rfl (Qt.assign rfl) ?_
  refine LW.done ?_
  refine T.seq ?_
  refine T.region ?_
  refine LW.q rfl (Qt.fieldAddr0 (by kernel_rfl) rfl) ?_
  first | refine LW.q rfl (Qt.load (by kernel_rfl) rfl rfl) ?_ | refine LW.q rfl (Qt.load (by kernel_rfl) rfl (map_at _ _ _ (by omega))) ?_ | refine LW.q rfl (Qt.load (by kernel_rfl) rfl (flat_cell0 _ _ _ (by intros; rfl) _ (by omega) (by rfl))) ?_ | refine LW.q rfl (Qt.load (by kernel_rfl) rfl (flat_cell _ _ _ (by intros; rfl) _ _ (by omega) (by rfl))) ?_ | refine LW.q rfl (Qt.load (by kernel_rfl) rfl (bytes_at _ _ (by omega))) ?_
  refine LW.q rfl (Qt.sub rfl rfl (wr64 (by omega) (by omega))) ?_
  refine LW.q rfl (Qt.assign rfl) ?_
  refine LW.done ?_
  refine T.ret ?_
  exact ⟨.inl rfl, _, _, res [_] rfl ⟨rvT rfl, trivial⟩, ⟨rfl, rfl⟩, Sub.any⟩
end Go.Proofs.Ytefognjcognknaa

/- Lists of pairs that rise, and trees read in order. Conditions: none. -/
set_option linter.unusedSimpArgs false
set_option linter.unusedVariables false
namespace Go.Proofs.Ytefognjcognknaa
abbrev KV := Str × Int
/-- The keys rise. -/
abbrev Up (l : List KV) : Prop := l.Pairwise fun a b => sl a.1 b.1 = true
theorem Up.rise {l : List KV} (h : Up l) : Rise (l.map (·.1)) := List.pairwise_map.2 h
def getL (l : List KV) (key : Str) : Option Int := (l.find? fun p => p.1 == key).map (·.2)
def lefts {α : Type} : List (List α) → List α → List α
  | k :: ks, v :: vs => k ++ v :: lefts ks vs
  | _, _ => []
def rights {α : Type} : List α → List (List α) → List α
  | v :: vs, k :: ks => v :: (k ++ rights vs ks)
  | _, _ => []
theorem inter_split {α : Type} : ∀ (A : List (List α)) (k : List α) (Bs : List (List α)) (vs : List α), A.length ≤ vs.length → Bs.length = vs.length - A.length → inter (A ++ k :: Bs) vs = lefts A (vs.take A.length) ++ (k ++ rights (vs.drop A.length) Bs)
  | [], k, [], [], _, _ => by simp [inter, lefts, rights]
  | [], k, b :: Bs, [], _, h => by simp at h
  | [], k, [], v :: vs, _, h => by simp at h
  | [], k, b :: Bs, v :: vs, _, h => by
    have ih := inter_split [] b Bs vs (by simp) (by simpa using h)
    simp only [List.nil_append, List.length_nil, List.take_zero, List.drop_zero, lefts, rights] at ih ⊢
    rw [inter, ih]
  | a :: A, k, Bs, [], h, _ => by simp at h
  | a :: A, k, Bs, v :: vs, h, h2 => by
    have ih := inter_split A k Bs vs (by simpa using h) (by simp at h2; omega)
    simp only [List.cons_append, List.length_cons, List.take_succ_cons, List.drop_succ_cons, lefts]
    rw [inter, ih]
    simp
theorem lefts_lt : ∀ {A : List (List KV)} {vs : List KV} {key : Str}, Up (lefts A vs) → (∀ v ∈ vs, sl v.1 key = true) → ∀ y ∈ lefts A vs, sl y.1 key = true
  | [], _, _, _, _, y, hy => by simp [lefts] at hy
  | _ :: _, [], _, _, _, y, hy => by simp [lefts] at hy
  | a :: A, v :: vs, key, hu, hv, y, hy => by
    simp only [lefts] at hu hy
    have h1 := List.pairwise_append.1 hu
    have h2 := List.pairwise_cons.1 h1.2.1
    rcases List.mem_append.1 hy with h | h
    · exact sl_trans (h1.2.2 y h v (List.mem_cons_self ..)) (hv v (List.mem_cons_self ..))
    · rcases List.mem_cons.1 h with rfl | h
      · exact hv _ (List.mem_cons_self ..)
      · exact lefts_lt h2.2 (fun u hu => hv u (List.mem_cons_of_mem _ hu)) y h
theorem rights_ge : ∀ {vs : List KV} {Bs : List (List KV)} {key : Str}, Up (rights vs Bs) → (∀ v ∈ vs, sl v.1 key = false) → ∀ y ∈ rights vs Bs, sl y.1 key = false
  | [], _, _, _, _, y, hy => by simp [rights] at hy
  | _ :: _, [], _, _, _, y, hy => by simp [rights] at hy
  | v :: vs, b :: Bs, key, hu, hv, y, hy => by
    simp only [rights] at hu hy
    have h1 := List.pairwise_cons.1 hu
    have h2 := List.pairwise_append.1 h1.2
    rcases List.mem_cons.1 hy with rfl | h
    · exact hv _ (List.mem_cons_self ..)
    · rcases List.mem_append.1 h with h | h
      · refine Bool.eq_false_iff.2 fun e => ?_
        have := sl_trans (h1.1 y (List.mem_append_left _ h)) e
        rw [hv v (List.mem_cons_self ..)] at this; cases this
      · exact rights_ge h2.2.1 (fun u hu => hv u (List.mem_cons_of_mem _ hu)) y h
theorem getL_append {a b : List KV} {key : Str} (h : ∀ y ∈ a, y.1 ≠ key) : getL (a ++ b) key = getL b key := by
  unfold getL
  rw [List.find?_append, List.find?_eq_none.2 (fun y hy => by simpa using h y hy)]
  rfl
theorem getL_none {a : List KV} {key : Str} (h : ∀ y ∈ a, y.1 ≠ key) : getL a key = none := by
  unfold getL
  rw [List.find?_eq_none.2 (fun y hy => by simpa using h y hy)]
  rfl
theorem getL_left {a b : List KV} {key : Str} (h : ∀ y ∈ b, y.1 ≠ key) : getL (a ++ b) key = getL a key := by
  unfold getL
  rw [List.find?_append, List.find?_eq_none (l := b) |>.2 (fun y hy => by simpa using h y hy)]
  simp
theorem getL_at {l : List KV} {key : Str} (hu : Up l) {i : Nat} {p : KV} (hi : l[i]? = some p) (hk : p.1 = key) : getL l key = some p.2 := by
  obtain ⟨hlt, e⟩ := List.getElem?_eq_some_iff.1 hi
  have e2 : l = l.take i ++ p :: l.drop (i + 1) := by rw [← e, List.getElem_cons_drop, List.take_append_drop]
  rw [e2]
  rw [e2] at hu
  have h1 := List.pairwise_append.1 hu
  rw [getL_append (fun y hy e3 => by
    have := h1.2.2 y hy p (List.mem_cons_self ..)
    rw [e3, hk, sl_irrefl] at this; cases this)]
  simp [getL, hk]
theorem ne_of_sl {a b : Str} (h : sl a b = true) : a ≠ b := fun e => by rw [e, sl_irrefl] at h; cases h
end Go.Proofs.Ytefognjcognknaa

/- A node's place for a key, and what lies left and right of it. Conditions: that the tree's keys rise. -/
set_option linter.unusedSimpArgs false
set_option linter.unusedVariables false
namespace Go.Proofs.Ytefognjcognknaa
theorem rights_gt : ∀ {vs : List KV} {Bs : List (List KV)} {key : Str}, Up (rights vs Bs) → (∀ v ∈ vs, sl key v.1 = true) → ∀ y ∈ rights vs Bs, sl key y.1 = true
  | [], _, _, _, _, y, hy => by simp [rights] at hy
  | _ :: _, [], _, _, _, y, hy => by simp [rights] at hy
  | v :: vs, b :: Bs, key, hu, hv, y, hy => by
    simp only [rights] at hu hy
    have h1 := List.pairwise_cons.1 hu
    have h2 := List.pairwise_append.1 h1.2
    rcases List.mem_cons.1 hy with rfl | h
    · exact hv _ (List.mem_cons_self ..)
    · rcases List.mem_append.1 h with h | h
      · exact sl_trans (hv v (List.mem_cons_self ..)) (h1.1 y (List.mem_append_left _ h))
      · exact rights_gt h2.2.1 (fun u hu => hv u (List.mem_cons_of_mem _ hu)) y h
theorem inter_sub {α : Type} : ∀ (Ks : List (List α)) (vs : List α), vs.length ≤ Ks.length → vs.Sublist (inter Ks vs)
  | _, [], _ => List.nil_sublist _
  | [], _ :: _, h => by simp at h
  | k :: ks, v :: vs, h => by
    rw [inter]
    exact (List.Sublist.cons_cons v (inter_sub ks vs (by simpa using h))).trans (List.sublist_append_right _ _)
theorem keyAt (x : Nd) (i : Nat) : x.ks[i]? = (x.kv[i]?).map (·.1) := by simp [Nd.ks]
theorem spot_take {x : Nd} {key : Str} : ∀ v ∈ x.kv.take (spot x.ks key), sl v.1 key = true := by
  intro v hv
  obtain ⟨j, hj, rfl⟩ := List.getElem_of_mem hv
  have h1 : j < spot x.ks key := by simp at hj; omega
  rw [List.getElem_take]
  exact spot_lt h1 (by rw [keyAt, List.getElem?_eq_getElem (by simp at hj; omega)]; rfl)
theorem spot_drop {x : Nd} {key : Str} (hu : Up x.kv) : ∀ v ∈ x.kv.drop (spot x.ks key), sl v.1 key = false := by
  intro v hv
  obtain ⟨j, hj, rfl⟩ := List.getElem_of_mem hv
  have hjl : spot x.ks key + j < x.kv.length := by simp at hj; omega
  rw [List.getElem_drop]
  have h0 : sl (x.kv[spot x.ks key]'(by omega)).1 key = false := spot_at (ks := x.ks) (by rw [keyAt, List.getElem?_eq_getElem (by omega)]; rfl)
  cases j with
  | zero => exact h0
  | succ j =>
    refine Bool.eq_false_iff.2 fun e => ?_
    have := sl_trans (List.pairwise_iff_getElem.1 hu (spot x.ks key) (spot x.ks key + (j + 1)) (by omega) hjl (by omega)) e
    rw [h0] at this; cases this
theorem spot_drop' {x : Nd} {key : Str} (hu : Up x.kv) (hn : x.ks[spot x.ks key]? ≠ some key) : ∀ v ∈ x.kv.drop (spot x.ks key), sl key v.1 = true := by
  intro v hv
  obtain ⟨j, hj, rfl⟩ := List.getElem_of_mem hv
  have hjl : spot x.ks key + j < x.kv.length := by simp at hj; omega
  rw [List.getElem_drop]
  have h0 : sl (x.kv[spot x.ks key]'(by omega)).1 key = false := spot_at (ks := x.ks) (by rw [keyAt, List.getElem?_eq_getElem (by omega)]; rfl)
  have h1 : sl key (x.kv[spot x.ks key]'(by omega)).1 = true := by
    refine Bool.not_eq_false _ |>.mp fun e => ?_
    have := sl_tri h0 e
    exact hn (by rw [keyAt, List.getElem?_eq_getElem (by omega)]; simp [this])
  cases j with
  | zero => exact h1
  | succ j => exact sl_trans h1 (List.pairwise_iff_getElem.1 hu (spot x.ks key) (spot x.ks key + (j + 1)) (by omega) hjl (by omega))
/-- The kid at a place, and what lies left and right of it. -/
theorem kid_at {h : Nat} {x : Nd} {ks : List (LT h)} {i : Nat} (hl : ks.length = x.kv.length + 1) (hi : i ≤ x.kv.length) : ∃ L1 k L2, ks = L1 ++ k :: L2 ∧ L1.length = i ∧ L2.length = x.kv.length - i ∧
    inter (ks.map (toL h)) x.kv = lefts (L1.map (toL h)) (x.kv.take i) ++ (toL h k ++ rights (x.kv.drop i) (L2.map (toL h))) := by
  have hlt : i < ks.length := by omega
  refine ⟨ks.take i, ks[i], ks.drop (i + 1), by rw [List.getElem_cons_drop, List.take_append_drop], by simp; omega, by simp; omega, ?_⟩
  have e : ks = ks.take i ++ ks[i] :: ks.drop (i + 1) := by rw [List.getElem_cons_drop, List.take_append_drop]
  conv => lhs; rw [e]
  rw [List.map_append, List.map_cons]
  have hm : ((ks.take i).map (toL h)).length = i := by simp; omega
  rw [inter_split _ _ _ _ (by rw [hm]; exact hi) (by rw [hm]; simp; omega), hm]
structure Spot (h : Nat) (x : Nd) (ks : List (LT h)) (key : Str) (L1 : List (LT h)) (k : LT h) (L2 : List (LT h)) (l r : List KV) : Prop where
  eq : ks = L1 ++ k :: L2
  l1 : L1.length = spot x.ks key
  l2 : L2.length = x.kv.length - spot x.ks key
  is : inter (ks.map (toL h)) x.kv = l ++ (toL h k ++ r)
  lt : ∀ y ∈ l, sl y.1 key = true
  ge : ∀ y ∈ r, sl y.1 key = false
  gt : x.ks[spot x.ks key]? ≠ some key → ∀ y ∈ r, sl key y.1 = true
  up : Up (toL h k)
theorem spot_kid {h : Nat} {x : Nd} {ks : List (LT h)} (key : Str) (hu : Up (inter (ks.map (toL h)) x.kv)) (hl : ks.length = x.kv.length + 1) : ∃ L1 k L2 l r, Spot h x ks key L1 k L2 l r := by
  have hi : spot x.ks key ≤ x.kv.length := by have := spot_le x.ks key; simpa using this
  obtain ⟨L1, k, L2, e1, e2, e3, e4⟩ := kid_at hl hi
  have hkv : Up x.kv := hu.sublist (inter_sub _ _ (by simp; omega))
  rw [e4] at hu
  have h1 := List.pairwise_append.1 hu
  have h2 := List.pairwise_append.1 h1.2.1
  exact ⟨L1, k, L2, _, _, e1, e2, e3, e4, lefts_lt h1.1 spot_take, rights_ge h2.2.1 (spot_drop hkv), fun hn => rights_gt h2.2.1 (spot_drop' hkv hn), h2.1⟩
theorem get_kid {h : Nat} {x : Nd} {ks : List (LT h)} {key : Str} {L1 : List (LT h)} {k : LT h} {L2 : List (LT h)} {l r : List KV} (s : Spot h x ks key L1 k L2 l r) (hn : x.ks[spot x.ks key]? ≠ some key) : getL (inter (ks.map (toL h)) x.kv) key = getL (toL h k) key := by
  rw [s.is, getL_append (fun y hy => ne_of_sl (s.lt y hy)), getL_left (fun y hy => (ne_of_sl (s.gt hn y hy)).symm)]
theorem get_here {h : Nat} {x : Nd} {ks : List (LT h)} {key : Str} (hu : Up (inter (ks.map (toL h)) x.kv)) (hl : ks.length = x.kv.length + 1) {p : KV} (hp : x.kv[spot x.ks key]? = some p) (hk : p.1 = key) : getL (inter (ks.map (toL h)) x.kv) key = some p.2 := by
  have hm : p ∈ inter (ks.map (toL h)) x.kv := (inter_sub _ _ (by simp; omega)).subset (List.mem_of_getElem? hp)
  obtain ⟨j, hj⟩ := List.getElem?_of_mem hm
  exact getL_at hu hj hk
end Go.Proofs.Ytefognjcognknaa

/- btree: Len, Get. Conditions: sizes; that the keys rise. -/
set_option linter.unusedSimpArgs false
set_option linter.unusedVariables false
namespace Go.Proofs.Ytefognjcognknaa
open Go.RowKit
abbrev trB (g o : Nat) (r : Nat) (cnt : Nat) : Assn := blk g [.int .i64 o, pV r, .int .i64 cnt] 100
theorem node_up {o : Nat} : ∀ {h : Nat} {r : Bool} {t : LT h}, okT o h r t → Up (toL h t) → Up (LT.nd h t).kv
  | 0, _, _, _, hu => hu
  | h + 1, _, t, hk, hu => hu.sublist (inter_sub (t.2.map (toL h)) t.1.kv (by rw [List.length_map, hk.2.2.2.1]; omega))
theorem node_len {o : Nat} : ∀ {h : Nat} {r : Bool} {t : LT h}, okT o h r t → (LT.nd h t).kv.length ≤ (toL h t).length
  | 0, _, _, _ => Nat.le_refl _
  | h + 1, _, t, hk => (inter_sub (t.2.map (toL h)) t.1.kv (by rw [List.length_map, hk.2.2.2.1]; omega)).length_le
theorem get_node {o : Nat} : ∀ {h : Nat} {r : Bool} {t : LT h} {key : Str} {p : KV}, okT o h r t → Up (toL h t) → (LT.nd h t).kv[spot (LT.nd h t).ks key]? = some p → p.1 = key → getL (toL h t) key = some p.2
  | 0, _, t, key, p, _, hu, hp, hk => getL_at (l := t.kv) hu hp hk
  | _ + 1, _, t, key, p, hk, hu, hp, e => get_here hu hk.2.2.2.1 hp e
theorem get_leaf {x : Nd} {key : Str} (hu : Up x.kv) (hn : x.ks[spot x.ks key]? ≠ some key) : getL x.kv key = none := by
  refine getL_none fun y hy e => ?_
  rw [← List.take_append_drop (spot x.ks key) x.kv] at hy
  rcases List.mem_append.1 hy with h | h
  · exact ne_of_sl (spot_take y h) e
  · exact ne_of_sl (spot_drop' hu hn y h) e.symm
theorem RdV.vs {B : Base} {x : Nd} (hp : 0 < x.kv.length → ∃ g, x.va = some ⟨g, 0, none⟩) : RdV B [ndV x] (.slice x.va x.kv.length x.vc) (x.vs.map iV) := RdV.ofRow (e := 2) (fun _ ho => ho.row_owns) (by simp) hp
theorem RdV.cs {B : Base} {x : Nd} {ps : List Nat} (hp : 0 < ps.length → ∃ g, x.ca = some ⟨g, 0, none⟩) : RdV B [ndC x ps] (.slice x.ca ps.length x.cc) (ps.map pV) := RdV.ofRow (e := 95) (fun _ ho => ho.row_owns) (by simp) hp
theorem Bt.len (B : Base) (g o r cnt : Nat) : Fn Try.prog B 18 #[pV g] [trB g o r cnt] (fun u l => u = .int .i64 cnt ∧ l = [trB g o r cnt]) := by
  refine Fn.enter1 7 Try.func18 rfl rfl (Nat.le_of_ble_eq_true rfl) (fun F => ?_)
  try simp only [List.cons_append, List.nil_append]
  refine T.seq ?_
  refine T.region ?_
  refine LW.q rfl (Qt.assign rfl) ?_
  refine LW.done ?_
  refine T.seq ?_
  refine T.region ?_
  refine LW.q rfl (Qt.move rfl) ?_
  refine LW.q rfl (Qt.nilCheck rfl) ?_
  refine LW.q rfl (Qt.fieldAddr (off := 2) (by kernel_rfl) rfl) ?_
  first | refine LW.q rfl (Qt.load (by kernel_rfl) rfl rfl) ?_ | refine LW.q rfl (Qt.load (by kernel_rfl) rfl (map_at _ _ _ (by omega))) ?_ | refine LW.q rfl (Qt.load (by kernel_rfl) rfl (flat_cell0 _ _ _ (by intros; rfl) _ (by omega) (by rfl))) ?_ | refine LW.q rfl (Qt.load (by kernel_rfl) rfl (flat_cell _ _ _ (by intros; rfl) _ _ (by omega) (by rfl))) ?_ | refine LW.q rfl (Qt.load (by kernel_rfl) rfl (bytes_at _ _ (by omega))) ?_
  refine LW.q rfl (Qt.assign rfl) ?_
  refine LW.done ?_
  refine T.ret ?_
  exact ⟨.inl rfl, _, _, res [_] rfl ⟨rvT rfl, trivial⟩, ⟨rfl, rfl⟩, Sub.any⟩
theorem Has.whole {H h : Nat} {c : Cx H h} {t : LT h} {T0 : LT H} {m : List Assn} {k : Piece} (e : c.plug t = T0) (K : Has (ndB (LT.nd h t) (LT.kp h t).length :: ndK (LT.nd h t) :: ndV (LT.nd h t) :: ndC (LT.nd h t) (LT.kp h t) :: restA h t :: cxA c (LT.nd h t).p :: m) k) : Has (treeA H T0 :: m) k := by
  subst e
  exact Has.plug (Has.closeT K)
theorem Has.down {H h : Nat} {c : Cx H (h + 1)} {t : LT (h + 1)} {L1 L2 : List (LT h)} {q : LT h} {m : List Assn} {k : Piece} (e : LT.sub h t = L1 ++ q :: L2) (K : Has (ndB (LT.nd _ t) (LT.kp _ t).length :: ndK (LT.nd _ t) :: ndV (LT.nd _ t) :: ndC (LT.nd _ t) (LT.kp _ t) :: restA _ t :: cxA c (LT.nd _ t).p :: m) k) : Has (treeA h q :: cxA (.down c (LT.nd _ t) L1 L2) (LT.nd h q).p :: m) k := by
  obtain ⟨x, ks⟩ := t
  have e2 : ks = L1 ++ q :: L2 := e
  subst e2
  exact Has.descend K
theorem plug_down {H h : Nat} {c : Cx H (h + 1)} {t : LT (h + 1)} {L1 L2 : List (LT h)} {q : LT h} (e : LT.sub h t = L1 ++ q :: L2) : (Cx.down c (LT.nd _ t) L1 L2).plug q = c.plug t := by
  obtain ⟨x, ks⟩ := t
  have e2 : ks = L1 ++ q :: L2 := e
  subst e2
  rfl
/-- The kid in which a key would be. -/
theorem kid_for {o h : Nat} {r : Bool} {t : LT (h + 1)} {key : Str} (hk : okT o (h + 1) r t) (hu : Up (toL (h + 1) t)) (hn : (LT.nd _ t).ks[spot (LT.nd _ t).ks key]? ≠ some key) : ∃ L1 q L2, LT.sub h t = L1 ++ q :: L2 ∧ (LT.kp _ t)[spot (LT.nd _ t).ks key]? = some (LT.nd h q).p ∧ okT o h false q ∧ Up (toL h q) ∧ (toL h q).length ≤ (toL (h + 1) t).length ∧ getL (toL h q) key = getL (toL (h + 1) t) key := by
  obtain ⟨x, ks⟩ := t
  obtain ⟨L1, q, L2, lf, rg, sp⟩ := spot_kid (x := x) (ks := ks) key hu hk.2.2.2.1
  have e := sp.eq
  have e1 := sp.l1
  refine ⟨L1, q, L2, e, ?_, ?_, sp.up, ?_, (get_kid sp hn).symm⟩
  · show (ks.map fun k => (LT.nd h k).p)[spot x.ks key]? = _
    rw [e, ← e1]
    simp
  · exact hk.2.2.2.2 q (by show q ∈ ks; rw [e]; simp)
  · show _ ≤ (inter (ks.map (toL h)) x.kv).length
    rw [sp.is]; simp; omega
theorem leaf_none {o : Nat} : ∀ {h : Nat} {r : Bool} {t : LT h} {key : Str}, okT o h r t → Up (toL h t) → ((LT.kp h t).length : Int) = 0 → (LT.nd h t).ks[spot (LT.nd h t).ks key]? ≠ some key → getL (toL h t) key = none
  | 0, _, _, _, _, hu, _, hn => get_leaf hu hn
  | h + 1, _, t, _, hk, _, h0, _ => by
    have h1 := hk.2.2.2.1
    have : (LT.kp (h + 1) t).length = t.2.length := by show (t.2.map fun k => (LT.nd h k).p).length = _; simp
    omega
set_option maxHeartbeats 1000000 in
theorem Bt.get (B : Base) (g o cnt H : Nat) (t : LT H) (key : Str) (hok : okT o H true t) (hu : Up (toL H t)) (hb : (toL H t).length < 2 ^ 40) :
  Fn Try.prog B 25 #[pV g, kT key] [trB g o (LT.nd H t).p cnt, treeA H t] (fun u l => u = .tuple #[iV ((getL (toL H t) key).getD 0), .bool (getL (toL H t) key).isSome] ∧ l = [trB g o (LT.nd H t).p cnt, treeA H t]) := by
 refine Fn.enter2 38 Try.func25 rfl rfl (Nat.le_of_ble_eq_true rfl) (fun F => ?_)
 try simp only [List.cons_append, List.nil_append]
 refine T.seq ?_
 refine T.region ?_
 refine LW.q rfl (Qt.assign rfl) ?_
 refine LW.q rfl (Qt.assign rfl) ?_
 refine LW.done ?_
 refine T.seq ?_
 refine T.region ?_
 refine LW.q rfl (Qt.move rfl) ?_
 refine LW.q rfl (Qt.nilCheck rfl) ?_
 refine LW.q rfl (Qt.fieldAddr (off := 1) (by kernel_rfl) rfl) ?_
 first | refine LW.q rfl (Qt.load (by kernel_rfl) rfl rfl) ?_ | refine LW.q rfl (Qt.load (by kernel_rfl) rfl (map_at _ _ _ (by omega))) ?_ | refine LW.q rfl (Qt.load (by kernel_rfl) rfl (flat_cell0 _ _ _ (by intros; rfl) _ (by omega) (by rfl))) ?_ | refine LW.q rfl (Qt.load (by kernel_rfl) rfl (flat_cell _ _ _ (by intros; rfl) _ _ (by omega) (by rfl))) ?_ | refine LW.q rfl (Qt.load (by kernel_rfl) rfl (bytes_at _ _ (by omega))) ?_
 refine LW.q rfl (Qt.assign rfl) ?_
 refine LW.done ?_
 refine T.block ?_
 refine T.conv (l' := trB g o (LT.nd H t).p cnt :: treeA H t :: cxA (Cx.top : Cx H H) (LT.nd H t).p :: F) (fun w ho => ho.map fun _ K => Has.cons_imp (fun _ K => Has.cons_imp (fun _ K => Has.close_pu trivial K) K) K) ?_
 refine T.loop (fun mz fz lz => ∃ (f0 : Fr) (h : Nat) (t' : LT h) (c : Cx H h) (r : Bool), (c.plug t' = t ∧ okT o h r t' ∧ Up (toL h t') ∧ (toL h t').length < 2 ^ 40 ∧ getL (toL h t') key = getL (toL H t) key) ∧ mz = h ∧ fz = (upd (upd f0 1 (kT key)) 6 (pV (LT.nd h t').p)) ∧ lz = trB g o (LT.nd H t).p cnt :: treeA h t' :: cxA c (LT.nd h t').p :: F) ?_ ?_
 · refine ⟨_, _, ⟨_, H, t, .top, true, ⟨rfl, hok, hu, hb, rfl⟩, rfl, (updS rfl (updS rfl rfl)), rfl⟩, Sub.any⟩
 ·
  rintro mz fz lz ⟨f0, h, t', c, r, ⟨hpl, hk, hup, hlen, hget⟩, hmz, rfl, rfl⟩
  subst mz
  try simp only [List.cons_append, List.nil_append]
  refine T.conv (fun w ho => ho.map fun _ K => Has.cons_imp (fun _ K => Has.openT K) K) ?_
  simp only [List.cons_append, List.nil_append]
  refine T.own fun w0 ho0 => ?_
  have hpv := (ho0.slice_at (p := (LT.nd h t').va) (m := (LT.nd h t').kv.length) (c := (LT.nd h t').vc) (k := (LT.nd h t').kv.length)).2.1
  have hpc := (ho0.slice_at (p := (LT.nd h t').ca) (m := (LT.kp h t').length) (c := (LT.nd h t').cc) (k := (LT.kp h t').length)).2.1
  clear ho0
  refine T.block ?_
  refine T.seq ?_
  refine T.region ?_
  refine LW.q rfl (Qt.move rfl) ?_
  refine LW.q rfl (Qt.move rfl) ?_
  refine LW.e rfl (Ef.call (Bt.find B (LT.nd h t') (LT.kp h t').length key (node_up hk hup).rise (by have := node_len hk; omega)) Try.func44 rfl rfl rfl ?_)
  rintro _ _ ⟨rfl, rfl⟩
  try simp only [List.cons_append, List.nil_append]
  refine LW.q rfl (Qt.move rfl) ?_
  refine LW.q rfl (Qt.extr rfl rfl) ?_
  refine LW.q rfl (Qt.extr rfl rfl) ?_
  refine LW.q rfl (Qt.assign rfl) ?_
  refine LW.q rfl (Qt.assign rfl) ?_
  refine LW.done ?_
  refine T.seq ?_
  refine T.block ?_
  refine T.seq ?_
  refine T.region ?_
  refine LW.q rfl (Qt.move rfl) ?_
  refine LW.q rfl (Qt.assign rfl) ?_
  refine LW.done ?_
  refine T.condP rfl (fun hth => ?_) (fun hth => ?_)
  ·
   have hsl : spot (LT.nd h t').ks key < (LT.nd h t').kv.length := by have := (List.getElem?_eq_some_iff.1 hth).1; simpa using this
   have hat : (LT.nd h t').kv[spot (LT.nd h t').ks key]? = some (LT.nd h t').kv[spot (LT.nd h t').ks key] := List.getElem?_eq_getElem hsl
   have hke : ((LT.nd h t').kv[spot (LT.nd h t').ks key]).1 = key := by rw [keyAt, hat] at hth; simpa using hth
   obtain ⟨b0, o0, hva, hc0⟩ := (RdV.vs (B := B) hpv).at (by omega)
   refine T.seq ?_
   refine T.region ?_
   refine LW.q rfl (Qt.move rfl) ?_
   refine LW.q rfl (Qt.nilCheck rfl) ?_
   refine LW.q rfl (Qt.fieldAddr (off := 1) (by kernel_rfl) rfl) ?_
   refine LW.q rfl (Qt.load (v := .slice (some ⟨b0, o0, none⟩) (LT.nd h t').kv.length (LT.nd h t').vc) (by kernel_rfl) rfl (by rw [← hva]; rfl)) ?_
   refine LW.q rfl (Qt.move rfl) ?_
   refine LW.q rfl (Qt.index _ (e := 2) (sz := 1) (by kernel_rfl) rfl rfl rfl (by omega)) ?_
   refine LW.q rfl (Qt.loadW (v := iV ((LT.nd h t').kv[spot (LT.nd h t').ks key]).2) (by kernel_rfl) rfl (fun w ho => by have := hc0 (spot (LT.nd h t').ks key) (by simpa using hsl) w (ho.map Sub.any); simpa using this)) ?_
   refine LW.q rfl (Qt.assign rfl) ?_
   refine LW.q rfl (Qt.assign rfl) ?_
   refine LW.done ?_
   refine T.ret ?_
   exact ⟨.inl rfl, _, _, res [_, _] rfl ⟨rvT rfl, rvT rfl, trivial⟩, ⟨by rw [← hget, get_node hk hup hat hke]; rfl, rfl⟩, (fun k K => Has.swap (Has.whole (m := trB g o (LT.nd H t).p cnt :: F) hpl (Sub.any k K)))⟩
  ·
   refine T.seq ?_
   refine T.region ?_
   refine LW.q rfl (Qt.move rfl) ?_
   refine LW.e rfl (Ef.call (Bt.leaf B (LT.nd h t') (LT.kp h t').length) Try.func45 rfl rfl rfl ?_)
   rintro _ _ ⟨rfl, rfl⟩
   try simp only [List.cons_append, List.nil_append]
   refine LW.q rfl (Qt.assign rfl) ?_
   refine LW.done ?_
   refine T.condP rfl (fun hlf => ?_) (fun hlf => ?_)
   ·
    refine T.seq ?_
    refine T.region ?_
    refine LW.q rfl (Qt.assign rfl) ?_
    refine LW.q rfl (Qt.assign rfl) ?_
    refine LW.done ?_
    refine T.ret ?_
    exact ⟨.inl rfl, _, _, res [_, _] rfl ⟨rvT rfl, rvT rfl, trivial⟩, ⟨by rw [← hget, leaf_none hk hup hlf hth]; rfl, rfl⟩, (fun k K => Has.swap (Has.whole (m := trB g o (LT.nd H t).p cnt :: F) hpl (Sub.any k K)))⟩
   ·
    have hex : ∃ h', h = h' + 1 := by cases h with | zero => exact absurd rfl hlf | succ h' => exact ⟨h', rfl⟩
    obtain ⟨h', rfl⟩ := hex
    obtain ⟨L1, q, L2, hsub, hat, hkq, huq, hlq, hgq⟩ := kid_for hk hup hth
    have hsl : spot (LT.nd _ t').ks key < (LT.kp _ t').length := (List.getElem?_eq_some_iff.1 hat).1
    obtain ⟨b0, o0, hca, hc0⟩ := (RdV.cs (B := B) hpc).at (by omega)
    refine T.skip ?_
    refine T.region ?_
    refine LW.q rfl (Qt.move rfl) ?_
    refine LW.q rfl (Qt.nilCheck rfl) ?_
    refine LW.q rfl (Qt.fieldAddr (off := 2) (by kernel_rfl) rfl) ?_
    refine LW.q rfl (Qt.load (v := .slice (some ⟨b0, o0, none⟩) (LT.kp (h' + 1) t').length (LT.nd _ t').cc) (by kernel_rfl) rfl (by rw [← hca]; rfl)) ?_
    refine LW.q rfl (Qt.move rfl) ?_
    refine LW.q rfl (Qt.index _ (e := 95) (sz := 1) (by kernel_rfl) rfl rfl rfl (by omega)) ?_
    refine LW.q rfl (Qt.loadW (v := pV (LT.nd h' q).p) (by kernel_rfl) rfl (fun w ho => by have := hc0 (spot (LT.nd _ t').ks key) (by simpa using hsl) w (ho.map Sub.any); rw [List.getElem_map] at this; rw [(List.getElem?_eq_some_iff.1 hat).2] at this; exact this)) ?_
    refine LW.q rfl (Qt.assign rfl) ?_
    refine LW.done ?_
    refine ⟨_, ?_, _, ⟨_, h', q, .down c (LT.nd _ t') L1 L2, false, ⟨(plug_down hsub).trans hpl, hkq, huq, by omega, hgq.trans hget⟩, rfl, (updS rfl (updS rfl rfl)), rfl⟩, (fun k K => Has.over (m := [treeA h' q, cxA (.down c (LT.nd _ t') L1 L2) (LT.nd h' q).p]) (Has.down (m := trB g o (LT.nd H t).p cnt :: F) hsub (Sub.any k K)))⟩
    first | omega | (simp; omega)
end Go.Proofs.Ytefognjcognknaa

/- btree: split. Conditions: sizes. -/
set_option linter.unusedSimpArgs false
set_option linter.unusedVariables false
namespace Go.Proofs.Ytefognjcognknaa
open Go.RowKit
theorem Has.rowTake {v : Option Addr} {m c e j : Nat} {xs : List Value} {l : List Assn} {k : Piece} (hj : j ≤ m) (h0 : 0 < m) (H : Has (row (.slice v m c) e 1 m xs :: l) k) : Has (row (.slice v j c) e 1 j (xs.take j) :: l) k := by
  refine Has.weaken (fun q hq => ?_) H
  obtain ⟨hl, h⟩ := hq
  refine ⟨by rw [List.length_take]; omega, ?_⟩
  rcases h with ⟨h, _⟩ | ⟨g, cap, cur, e1, e2, e3, e4, e5, e6⟩
  · injection h with _ h1 _
    omega
  · injection e1 with e1 _ ec
    subst e1; subst ec
    exact .inr ⟨g, c, cur, rfl, e2, by omega, e4, e5, by rw [← e6, List.take_take]; congr 1; omega⟩
theorem RdV.ks {B : Base} {x : Nd} (hp : 0 < x.kv.length → ∃ g, x.ka = some ⟨g, 0, none⟩) : RdV B [ndK x] (.slice x.ka x.kv.length x.kc) (x.ks.map kT) := RdV.ofRow (e := 9) (fun _ ho => ho.row_owns) (by simp) hp
theorem RdV.dropV {B : Base} {S : List Assn} {a : Option Addr} {m c o : Nat} {cs : List Value} (h : RdV B S (.slice a m c) cs) (hm : cs.length = m) (hp : 0 < m → ∃ g, a = some ⟨g, 0, none⟩) (ho : o ≤ m) (hc : m ≤ c) : RdV B S (.slice (offA a c o 1) (m - o) (c - o)) (cs.drop o) := by
  have := h.sub o m (c - o) ho (by omega) (offA a c o 1) (fun hlt b q e => by
    obtain ⟨g, rfl⟩ := hp (by omega)
    injection e with e
    injection e with e1 e2
    subst e1; subst e2
    rw [offA_one (by omega), Nat.zero_add])
  rw [List.take_of_length_le (by omega)] at this
  exact this
abbrev insL {α : Type} (l : List α) (i : Nat) (m : α) : List α := l.take i ++ m :: l.drop i
theorem insL_len {α : Type} {l : List α} {i : Nat} {m : α} (h : i ≤ l.length) : (insL l i m).length = l.length + 1 := by simp [insL]; omega
theorem insL_map {α β : Type} (f : α → β) (l : List α) (i : Nat) (m : α) : (insL l i m).map f = insL (l.map f) i (f m) := by simp [insL, List.map_take, List.map_drop]
theorem Has.rowCast {v v' : Value} {e m m' : Nat} {xs xs' : List Value} {l : List Assn} {k : Piece} (hv : v = v') (hm : m = m') (hx : xs = xs') (H : Has (row v e 1 m xs :: l) k) : Has (row v' e 1 m' xs' :: l) k := by subst hv; subst hm; subst hx; exact H
theorem Has.blkCast {g t : Nat} {C C' : List Value} {l : List Assn} {k : Piece} (hC : C = C') (H : Has (blk g C t :: l) k) : Has (blk g C' t :: l) k := by subst hC; exact H
theorem Has.head {A : Assn} {l m : List Assn} {k : Piece} (H : Has (A :: l) k) (f : ∀ q, Has l q → Has m q) : Has (A :: m) k := Has.cons_imp f H
/-- The parent behind a split. -/
theorem Has.par {x x' : Nd} {ps qs : List Nat} {i : Nat} {m : KV} {p : Nat} {a5 a6 a7 : Option Addr} {c5 c6 c7 : Nat} {l : List Assn} {k : Piece} (hx : x' = ⟨x.p, insL x.kv i m, a5, c5, a6, c6, a7, c7⟩) (hq : qs = insL ps (i + 1) p) (hi : i ≤ x.kv.length) (hi2 : i + 1 ≤ ps.length)
    (H : Has (blk x.p [.slice a5 (x.kv.length + 1) c5, .slice a6 (x.kv.length + 1) c6, .slice a7 (ps.length + 1) c7] 98 :: row (.slice a5 (x.kv.length + 1) c5) 9 1 (x.kv.length + 1) (insL (x.ks.map kT) i (kT m.1)) :: row (.slice a6 (x.kv.length + 1) c6) 2 1 (x.kv.length + 1) (insL (x.vs.map iV) i (iV m.2)) :: row (.slice a7 (ps.length + 1) c7) 95 1 (ps.length + 1) (insL (ps.map pV) (i + 1) (pV p)) :: l) k) : Has (ndB x' qs.length :: ndK x' :: ndV x' :: ndC x' qs :: l) k := by
  subst hq; subst hx
  have e1 : (insL x.kv i m).length = x.kv.length + 1 := insL_len hi
  have e2 : (insL ps (i + 1) p).length = ps.length + 1 := insL_len hi2
  refine Has.head (Has.blkCast (by rw [e1, e2]) H) fun q H => ?_
  refine Has.head (Has.rowCast (by rw [e1]) e1.symm (by rw [Nd.ks, Nd.ks, insL_map, insL_map]) H) fun q H => ?_
  refine Has.head (Has.rowCast (by rw [e1]) e1.symm (by rw [Nd.vs, Nd.vs, insL_map, insL_map]) H) fun q H => ?_
  exact Has.rowCast (by rw [e2]) e2.symm (by rw [insL_map]) H
/-- The left one behind a split. -/
theorem Has.lft {y y' : Nd} {ps : List Nat} {j z : Nat} {l : List Assn} {k : Piece} (hp : y' = ⟨y.p, y.kv.take j, y.ka, y.kc, y.va, y.vc, y.ca, y.cc⟩) (hj : j ≤ y.kv.length) (h0 : 0 < y.kv.length) (hz : z ≤ ps.length) (hz0 : ps = [] ∨ 0 < ps.length)
    (H : Has (blk y.p [.slice y.ka j y.kc, .slice y.va j y.vc, .slice y.ca z y.cc] 98 :: ndK y :: ndV y :: ndC y ps :: l) k) : Has (ndB y' (ps.take z).length :: ndK y' :: ndV y' :: ndC y' (ps.take z) :: l) k := by
  subst hp
  have e1 : (y.kv.take j).length = j := by rw [List.length_take]; omega
  have e2 : (ps.take z).length = z := by rw [List.length_take]; omega
  refine Has.head (Has.blkCast (by rw [e1, e2]) H) fun q H => ?_
  refine Has.head (Has.rowCast (by rw [e1]) e1.symm (by simp [Nd.ks, List.map_take]) (Has.rowTake hj h0 H)) fun q H => ?_
  refine Has.head (Has.rowCast (by rw [e1]) e1.symm (by simp [Nd.vs, List.map_take]) (Has.rowTake hj h0 H)) fun q HH => ?_
  rcases hz0 with hz0 | hz0
  · have hz1 : z = 0 := by rw [hz0] at hz; simpa using hz
    rw [hz0, hz1]
    rw [hz0] at HH
    exact HH
  · exact Has.rowCast (by rw [e2]) e2.symm (by rw [List.map_take]) (Has.rowTake hz hz0 HH)
/-- The right one behind a split. -/
theorem Has.rgt {y z' : Nd} {ps : List Nat} {g o j m : Nat} {p1 p2 p3 : Option Addr} {c1 c2 c3 : Nat} {l : List Assn} {k : Piece} (hp : z' = ⟨g, y.kv.drop o, p1, c1, p2, c2, p3, c3⟩) (hj : y.kv.length - o = j) (hm : ps.length - o = m)
    (H : Has (blk g [.slice p1 j c1, .slice p2 j c2, .slice p3 m c3] 98 :: row (.slice p1 j c1) 9 1 j ((y.kv.drop o).map fun q => kT q.1) :: row (.slice p2 j c2) 2 1 j ((y.kv.drop o).map fun q => iV q.2) :: row (.slice p3 m c3) 95 1 m ((ps.drop o).map pV) :: l) k) : Has (ndB z' (ps.drop o).length :: ndK z' :: ndV z' :: ndC z' (ps.drop o) :: l) k := by
  subst hp; subst hj; subst hm
  have e1 : (y.kv.drop o).length = y.kv.length - o := by simp
  have e2 : (ps.drop o).length = ps.length - o := by simp
  refine Has.head (Has.blkCast (by rw [e1, e2]) H) fun q H => ?_
  refine Has.head (Has.rowCast (by rw [e1]) e1.symm (by simp [Nd.ks]; rfl) H) fun q H => ?_
  refine Has.head (Has.rowCast (by rw [e1]) e1.symm (by simp [Nd.vs]; rfl) H) fun q H => ?_
  exact Has.rowCast (by rw [e2]) e2.symm rfl H
theorem Has.rowNil {e sz : Nat} {l : List Assn} {k : Piece} (H : Has l k) : Has (row (.slice none 0 0) e sz 0 [] :: l) k := ⟨fun _ => none, _, ⟨fun _ => .inl rfl⟩, ⟨fun _ _ h => (by cases h)⟩, Piece.le_refl _, ⟨by simp, .inl ⟨rfl, rfl⟩⟩, H⟩
set_option maxHeartbeats 4000000 in
set_option maxRecDepth 100000 in
theorem Bt.split (B : Base) (g o r cnt : Nat) (x k : Nd) (ps kps : List Nat) (i : Nat) (ho : 2 ≤ o) (ho2 : o ≤ 64) (hi : ps[i]? = some k.p) (hil : i ≤ x.kv.length) (hxl : x.kv.length < 2 ^ 39) (hpl : ps.length = x.kv.length + 1) (hkl : k.kv.length = 2 * o - 1) (hkp : kps = [] ∨ kps.length = 2 * o) :
  Fn Try.prog B 43 #[pV g, pV x.p, .int .i64 i] ([trB g o r cnt] ++ nodeL x ps ++ nodeL k kps) (fun u l => ∃ x' k1 k2 : Nd, x'.p = x.p ∧ k1.p = k.p ∧ x'.kv = x.kv.take i ++ (k.kv[o - 1]'(by omega)) :: x.kv.drop i ∧ k1.kv = k.kv.take (o - 1) ∧ k2.kv = k.kv.drop o ∧ u = outV [] ∧
   l = [trB g o r cnt] ++ nodeL x' (ps.take (i + 1) ++ k2.p :: ps.drop (i + 1)) ++ nodeL k1 (kps.take o) ++ nodeL k2 (kps.drop o)) := by
 refine Fn.enter3 128 Try.func43 rfl rfl (Nat.le_of_ble_eq_true rfl) (fun F => ?_)
 try simp only [List.cons_append, List.nil_append]
 refine T.own fun w0 ho0 => ?_
 have hxk := (ho0.slice_at (p := x.ka) (m := x.kv.length) (c := x.kc) (k := x.kv.length)).2.1
 have hxc := (ho0.slice_at (p := x.ca) (m := ps.length) (c := x.cc) (k := ps.length)).2.1
 have hkk := (ho0.slice_at (p := k.ka) (m := k.kv.length) (c := k.kc) (k := k.kv.length)).2.1
 have hkv := (ho0.slice_at (p := k.va) (m := k.kv.length) (c := k.vc) (k := k.kv.length)).2.1
 have hkc := (ho0.slice_at (p := k.ca) (m := kps.length) (c := k.cc) (k := kps.length)).2.1
 have hkcap : k.kv.length ≤ k.kc := ho0.cap_at (p := k.ka) (m := k.kv.length) (c := k.kc) (k := k.kv.length)
 have hkvcap : k.kv.length ≤ k.vc := ho0.cap_at (p := k.va) (m := k.kv.length) (c := k.vc) (k := k.kv.length)
 have hkccap : kps.length ≤ k.cc := ho0.cap_at (p := k.ca) (m := kps.length) (c := k.cc) (k := kps.length)
 clear ho0
 obtain ⟨b0, o0, hca, hc0⟩ := (RdV.cs (B := B) hxc).at (by omega)
 refine T.seq ?_
 refine T.drawAll 14 (by kernel_rfl) (Nat.le_of_ble_eq_true rfl) (by kernel_rfl) ?_
 refine RW.q 0 rfl rfl (by kernel_rfl) (Sub.refl _) (Qt.move rfl) ?_
 refine RW.q 1 rfl rfl (by kernel_rfl) (Sub.refl _) (Qt.nilCheck rfl) ?_
 refine RW.q 2 rfl rfl (by kernel_rfl) (Sub.refl _) (Qt.fieldAddr (off := 2) (by kernel_rfl) rfl) ?_
 refine RW.q 3 rfl rfl (by kernel_rfl) (Sub.refl _) (Qt.load (v := .slice (some ⟨b0, o0, none⟩) ps.length x.cc) (by kernel_rfl) rfl (by rw [← hca]; rfl)) ?_
 refine RW.q 4 rfl rfl (by kernel_rfl) (Sub.refl _) (Qt.move rfl) ?_
 refine RW.q 5 rfl rfl (by kernel_rfl) (Sub.refl _) (Qt.index _ (e := 95) (sz := 1) (by kernel_rfl) rfl rfl rfl (by omega)) ?_
 refine RW.q 6 rfl rfl (by kernel_rfl) (Sub.refl _) (Qt.loadW (v := pV k.p) (by kernel_rfl) rfl (fun w ho => by have := hc0 i (by simp; omega) w (ho.map Sub.any); rw [List.getElem_map] at this; rw [(List.getElem?_eq_some_iff.1 hi).2] at this; exact this)) ?_
 refine RW.q 7 rfl rfl (by kernel_rfl) (Sub.refl _) (Qt.move rfl) ?_
 refine RW.q 8 rfl rfl (by kernel_rfl) (Sub.refl _) (Qt.nilCheck rfl) ?_
 refine RW.q 9 rfl rfl (by kernel_rfl) (Sub.refl _) (Qt.fieldAddr0 (by kernel_rfl) rfl) ?_
 refine RW.q 10 rfl rfl (by kernel_rfl) (Sub.refl _) (Qt.fieldAddr0 (by kernel_rfl) rfl) ?_
 first | refine RW.q 11 rfl rfl (by kernel_rfl) (Sub.refl _) (Qt.load (by kernel_rfl) rfl rfl) ?_ | refine RW.q 11 rfl rfl (by kernel_rfl) (Sub.refl _) (Qt.load (by kernel_rfl) rfl (map_at _ _ _ (by omega))) ?_ | refine RW.q 11 rfl rfl (by kernel_rfl) (Sub.refl _) (Qt.load (by kernel_rfl) rfl (flat_cell0 _ _ _ (by intros; rfl) _ (by omega) (by rfl))) ?_ | refine RW.q 11 rfl rfl (by kernel_rfl) (Sub.refl _) (Qt.load (by kernel_rfl) rfl (flat_cell _ _ _ (by intros; rfl) _ _ (by omega) (by rfl))) ?_ | refine RW.q 11 rfl rfl (by kernel_rfl) (Sub.refl _) (Qt.load (by kernel_rfl) rfl (bytes_at _ _ (by omega))) ?_
 refine RW.q 12 rfl rfl (by kernel_rfl) (Sub.refl _) (Qt.sub (r := ((o - 1 : Nat) : Int)) rfl rfl (by rw [wr64 (by omega) (by omega)]; omega)) ?_
 refine RW.q 13 rfl rfl (by kernel_rfl) (Sub.refl _) (Qt.assign rfl) ?_
 refine RW.done (by rfl) ?_
 simp only [List.drop_succ_cons, List.drop_zero, List.drop_nil]
 refine LW.q rfl (Qt.assign rfl) ?_
 refine LW.done ?_
 refine T.seq ?_
 refine T.drawBl 18 none (by kernel_rfl) (Nat.le_of_ble_eq_true rfl) (by kernel_rfl) ?_
 refine RW.q 0 rfl rfl (by kernel_rfl) Sub.any (Qt.move rfl) ?_
 refine RW.q 1 rfl rfl (by kernel_rfl) Sub.any (Qt.nilCheck rfl) ?_
 refine RW.q 2 rfl rfl (by kernel_rfl) Sub.any (Qt.fieldAddr0 (by kernel_rfl) rfl) ?_
 first | refine RW.q 3 rfl rfl (by kernel_rfl) Sub.any (Qt.load (by kernel_rfl) rfl rfl) ?_ | refine RW.q 3 rfl rfl (by kernel_rfl) Sub.any (Qt.load (by kernel_rfl) rfl (map_at _ _ _ (by omega))) ?_ | refine RW.q 3 rfl rfl (by kernel_rfl) Sub.any (Qt.load (by kernel_rfl) rfl (flat_cell0 _ _ _ (by intros; rfl) _ (by omega) (by rfl))) ?_ | refine RW.q 3 rfl rfl (by kernel_rfl) Sub.any (Qt.load (by kernel_rfl) rfl (flat_cell _ _ _ (by intros; rfl) _ _ (by omega) (by rfl))) ?_ | refine RW.q 3 rfl rfl (by kernel_rfl) Sub.any (Qt.load (by kernel_rfl) rfl (bytes_at _ _ (by omega))) ?_
 refine RW.q 4 rfl rfl (by kernel_rfl) Sub.any (Qt.move rfl) ?_
 refine RW.q 5 rfl rfl (by kernel_rfl) Sub.any (Qt.add rfl rfl (wr64 (by omega) (by omega))) ?_
 refine RW.q 6 rfl rfl (by kernel_rfl) Sub.any (Qt.slice_snn o (e := 9) (sz := 1) (by kernel_rfl) rfl rfl (by omega) (by omega)) ?_
 refine RW.q 8 rfl rfl (by kernel_rfl) Sub.any (Qt.move rfl) ?_
 refine RW.q 9 rfl rfl (by kernel_rfl) Sub.any (Qt.nilCheck rfl) ?_
 refine RW.q 10 rfl rfl (by kernel_rfl) Sub.any (Qt.fieldAddr (off := 1) (by kernel_rfl) rfl) ?_
 first | refine RW.q 11 rfl rfl (by kernel_rfl) Sub.any (Qt.load (by kernel_rfl) rfl rfl) ?_ | refine RW.q 11 rfl rfl (by kernel_rfl) Sub.any (Qt.load (by kernel_rfl) rfl (map_at _ _ _ (by omega))) ?_ | refine RW.q 11 rfl rfl (by kernel_rfl) Sub.any (Qt.load (by kernel_rfl) rfl (flat_cell0 _ _ _ (by intros; rfl) _ (by omega) (by rfl))) ?_ | refine RW.q 11 rfl rfl (by kernel_rfl) Sub.any (Qt.load (by kernel_rfl) rfl (flat_cell _ _ _ (by intros; rfl) _ _ (by omega) (by rfl))) ?_ | refine RW.q 11 rfl rfl (by kernel_rfl) Sub.any (Qt.load (by kernel_rfl) rfl (bytes_at _ _ (by omega))) ?_
 refine RW.q 12 rfl rfl (by kernel_rfl) Sub.any (Qt.move rfl) ?_
 refine RW.q 13 rfl rfl (by kernel_rfl) Sub.any (Qt.add rfl rfl (wr64 (by omega) (by omega))) ?_
 refine RW.q 14 rfl rfl (by kernel_rfl) Sub.any (Qt.slice_snn o (e := 2) (sz := 1) (by kernel_rfl) rfl rfl (by omega) (by omega)) ?_
 refine RW.one 7 (by kernel_rfl) ?_
 refine RO.eS rfl rfl (Ef.call (Lb.cloneS B [ndK k] (.slice (offA k.ka k.kc o 1) (k.kv.length - o) (k.kc - o)) ((k.kv.drop o).map fun q => kT q.1) (k.kv.length - o) (by simp) (by have := (RdV.ks (B := B) hkk).dropV (o := o) (by simp) hkk (by omega) hkcap; simpa [List.map_drop, Function.comp_def] using this) (by omega) (by intro v hv; obtain ⟨_, _, rfl⟩ := List.mem_map.1 hv; rfl)) Try.func68 rfl rfl rfl ?_)
 rintro _ _ ⟨p1, c1, rfl, rfl⟩
 try simp only [List.cons_append, List.nil_append]
 refine ⟨Sub.any, ?_⟩
 refine RW.one 15 (by kernel_rfl) ?_
 refine RO.r rfl rfl (by kernel_rfl) (Ef.call (Lb.cloneI B [ndV k] (.slice (offA k.va k.vc o 1) (k.kv.length - o) (k.vc - o)) ((k.kv.drop o).map fun q => iV q.2) (k.kv.length - o) (by simp) (by have := (RdV.vs (B := B) hkv).dropV (o := o) (by simp) hkv (by omega) hkvcap; simpa [List.map_drop, Function.comp_def] using this) (by omega) (by intro v hv; obtain ⟨_, _, rfl⟩ := List.mem_map.1 hv; rfl)) Try.func69 rfl rfl rfl ?_)
 rintro _ _ ⟨p2, c2, rfl, rfl⟩
 try simp only [List.cons_append, List.nil_append]
 refine RW.q 16 rfl rfl (by kernel_rfl) (Sub.refl _) (Qt.build [(0, 1), (1, 1), (2, 1)] [.slice none 0 0, .slice none 0 0, .slice none 0 0] [_, _, _] [(0, _), (1, _)] (by kernel_rfl) (by unfold zeroB; kernel_rfl) rfl rfl) ?_
 refine RW.one 17 (by kernel_rfl) ?_
 refine RO.r rfl rfl (by kernel_rfl) (Ef.box [_, _, _] rfl rfl ?_)
 intro g39
 refine RW.done (by rfl) ?_
 simp only [List.drop_succ_cons, List.drop_zero, List.drop_nil]
 refine LW.q rfl (Qt.assign rfl) ?_
 refine LW.done ?_
 refine T.seq ?_
 refine T.seq ?_
 refine T.region ?_
 refine LW.q rfl (Qt.move rfl) ?_
 refine LW.e rfl (Ef.call (Bt.leaf B k kps.length) Try.func45 rfl rfl rfl ?_)
 rintro _ _ ⟨rfl, rfl⟩
 try simp only [List.cons_append, List.nil_append]
 first | refine LW.q rfl (Qt.notP rfl) ?_ | refine LW.q rfl (Qt.notB rfl) ?_
 refine LW.done ?_
 obtain ⟨bk, ok, hka, hck⟩ := (RdV.ks (B := B) hkk).at (by omega)
 obtain ⟨bv, ov, hva, hcv⟩ := (RdV.vs (B := B) hkv).at (by omega)
 refine T.condP rfl (fun hlf => ?_) (fun hlf => ?_)
 ·
  have hkl2 : kps.length = 2 * o := hkp.resolve_left (fun e => hlf (by rw [e]; rfl))
  refine T.seq ?_
  refine T.region ?_
  refine LW.q rfl (Qt.move rfl) ?_
  refine LW.q rfl (Qt.move rfl) ?_
  refine LW.q rfl (Qt.nilCheck rfl) ?_
  refine LW.q rfl (Qt.fieldAddr (off := 2) (by kernel_rfl) rfl) ?_
  first | refine LW.q rfl (Qt.load (by kernel_rfl) rfl rfl) ?_ | refine LW.q rfl (Qt.load (by kernel_rfl) rfl (map_at _ _ _ (by omega))) ?_ | refine LW.q rfl (Qt.load (by kernel_rfl) rfl (flat_cell0 _ _ _ (by intros; rfl) _ (by omega) (by rfl))) ?_ | refine LW.q rfl (Qt.load (by kernel_rfl) rfl (flat_cell _ _ _ (by intros; rfl) _ _ (by omega) (by rfl))) ?_ | refine LW.q rfl (Qt.load (by kernel_rfl) rfl (bytes_at _ _ (by omega))) ?_
  refine LW.q rfl (Qt.move rfl) ?_
  refine LW.q rfl (Qt.add rfl rfl (wr64 (by omega) (by omega))) ?_
  refine LW.q rfl (Qt.slice_snn o (e := 95) (sz := 1) (by kernel_rfl) rfl rfl (by omega) (by omega)) ?_
  refine LW.e rfl (Ef.call (Lb.cloneN B [ndC k kps] (.slice (offA k.ca k.cc o 1) (kps.length - o) (k.cc - o)) ((kps.drop o).map pV) (kps.length - o) (by simp) (by have := (RdV.cs (B := B) hkc).dropV (o := o) (by simp) hkc (by omega) hkccap; simpa [List.map_drop, Function.comp_def] using this) (by omega) (by intro v hv; obtain ⟨_, _, rfl⟩ := List.mem_map.1 hv; rfl)) Try.func70 rfl rfl rfl ?_)
  rintro _ _ ⟨p3, c3, rfl, rfl⟩
  try simp only [List.cons_append, List.nil_append]
  refine LW.q rfl (Qt.nilCheck rfl) ?_
  refine LW.q rfl (Qt.fieldAddr (off := 2) (by kernel_rfl) rfl) ?_
  refine LW.e0 rfl (Ef.store1 (by kernel_rfl) rfl rfl rfl (by first | (simp; done) | (simp; omega)) ?_)
  try simp only [List.set_cons_zero, List.set_cons_succ]
  refine LW.done ?_
  refine T.region ?_
  refine LW.q rfl (Qt.move rfl) ?_
  refine LW.q rfl (Qt.move rfl) ?_
  refine LW.q rfl (Qt.nilCheck rfl) ?_
  refine LW.q rfl (Qt.fieldAddr (off := 2) (by kernel_rfl) rfl) ?_
  first | refine LW.q rfl (Qt.load (by kernel_rfl) rfl rfl) ?_ | refine LW.q rfl (Qt.load (by kernel_rfl) rfl (map_at _ _ _ (by omega))) ?_ | refine LW.q rfl (Qt.load (by kernel_rfl) rfl (flat_cell0 _ _ _ (by intros; rfl) _ (by omega) (by rfl))) ?_ | refine LW.q rfl (Qt.load (by kernel_rfl) rfl (flat_cell _ _ _ (by intros; rfl) _ _ (by omega) (by rfl))) ?_ | refine LW.q rfl (Qt.load (by kernel_rfl) rfl (bytes_at _ _ (by omega))) ?_
  refine LW.q rfl (Qt.move rfl) ?_
  refine LW.q rfl (Qt.add rfl rfl (wr64 (by omega) (by omega))) ?_
  refine LW.q rfl (Qt.slice_nsn o (e := 95) (sz := 1) (by kernel_rfl) rfl rfl (by omega) (by omega)) ?_
  refine LW.q rfl (Qt.nilCheck rfl) ?_
  refine LW.q rfl (Qt.fieldAddr (off := 2) (by kernel_rfl) rfl) ?_
  refine LW.e0 rfl (Ef.store1 (by kernel_rfl) rfl rfl rfl (by first | (simp; done) | (simp; omega)) ?_)
  try simp only [List.set_cons_zero, List.set_cons_succ]
  refine LW.done ?_
  refine T.seq ?_
  refine T.drawBl 15 none (by kernel_rfl) (Nat.le_of_ble_eq_true rfl) (by kernel_rfl) ?_
  refine RW.q 0 rfl rfl (by kernel_rfl) Sub.any (Qt.move rfl) ?_
  refine RW.q 1 rfl rfl (by kernel_rfl) Sub.any (Qt.move rfl) ?_
  refine RW.q 2 rfl rfl (by kernel_rfl) Sub.any (Qt.nilCheck rfl) ?_
  refine RW.q 3 rfl rfl (by kernel_rfl) Sub.any (Qt.fieldAddr0 (by kernel_rfl) rfl) ?_
  first | refine RW.q 4 rfl rfl (by kernel_rfl) Sub.any (Qt.load (by kernel_rfl) rfl rfl) ?_ | refine RW.q 4 rfl rfl (by kernel_rfl) Sub.any (Qt.load (by kernel_rfl) rfl (map_at _ _ _ (by omega))) ?_ | refine RW.q 4 rfl rfl (by kernel_rfl) Sub.any (Qt.load (by kernel_rfl) rfl (flat_cell0 _ _ _ (by intros; rfl) _ (by omega) (by rfl))) ?_ | refine RW.q 4 rfl rfl (by kernel_rfl) Sub.any (Qt.load (by kernel_rfl) rfl (flat_cell _ _ _ (by intros; rfl) _ _ (by omega) (by rfl))) ?_ | refine RW.q 4 rfl rfl (by kernel_rfl) Sub.any (Qt.load (by kernel_rfl) rfl (bytes_at _ _ (by omega))) ?_
  refine RW.q 5 rfl rfl (by kernel_rfl) Sub.any (Qt.move rfl) ?_
  refine RW.q 6 rfl rfl (by kernel_rfl) Sub.any (Qt.move rfl) ?_
  refine RW.q 7 rfl rfl (by kernel_rfl) Sub.any (Qt.nilCheck rfl) ?_
  refine RW.q 8 rfl rfl (by kernel_rfl) Sub.any (Qt.fieldAddr0 (by kernel_rfl) rfl) ?_
  refine RW.q 9 rfl rfl (by kernel_rfl) Sub.any (Qt.load (v := .slice (some ⟨bk, ok, none⟩) k.kv.length k.kc) (by kernel_rfl) rfl (by rw [← hka]; rfl)) ?_
  refine RW.q 10 rfl rfl (by kernel_rfl) Sub.any (Qt.move rfl) ?_
  refine RW.q 11 rfl rfl (by kernel_rfl) Sub.any (Qt.index _ (e := 9) (sz := 1) (by kernel_rfl) rfl rfl rfl (by omega)) ?_
  refine RW.one 12 (by kernel_rfl) ?_
  first | refine RO.eS rfl rfl (Ef.qt (Qt.loadW (v := kT (k.kv[o - 1]'(by omega)).1) (by kernel_rfl) rfl (fun w ho => by have := hck (o - 1) (by simp; omega) w (ho.map Sub.any); simpa using this)) ?_)
  refine ⟨Sub.any, ?_⟩
  refine RW.one 13 (by kernel_rfl) ?_
  refine RO.eS rfl rfl (Ef.one [_] (e := 9) (sz := 1) (by kernel_rfl) ⟨.string .empty, by kernel_rfl, rfl⟩ rfl rfl rfl (by omega) (by omega) ?_)
  intro g77
  refine ⟨Sub.any, ?_⟩
  refine RW.one 14 (by kernel_rfl) ?_
  refine RO.r rfl rfl (by kernel_rfl) (Ef.call (Lb.insertS B x.ka x.kv.length x.kc i g77 (x.ks.map kT) (kT (k.kv[o - 1]'(by omega)).1) (by simp) hil (by omega) rfl one_kT) Try.func46 rfl rfl rfl ?_)
  rintro _ _ ⟨p5, c5, rfl, ⟨h5, rfl⟩, rfl⟩
  try simp only [List.cons_append, List.nil_append]
  refine RW.done (by rfl) ?_
  simp only [List.drop_succ_cons, List.drop_zero, List.drop_nil]
  refine LW.q rfl (Qt.nilCheck rfl) ?_
  refine LW.q rfl (Qt.fieldAddr0 (by kernel_rfl) rfl) ?_
  refine LW.e0 rfl (Ef.store1 (by kernel_rfl) rfl rfl rfl (by first | (simp; done) | (simp; omega)) ?_)
  try simp only [List.set_cons_zero, List.set_cons_succ]
  refine LW.done ?_
  refine T.seq ?_
  refine T.drawBl 15 none (by kernel_rfl) (Nat.le_of_ble_eq_true rfl) (by kernel_rfl) ?_
  refine RW.q 0 rfl rfl (by kernel_rfl) Sub.any (Qt.move rfl) ?_
  refine RW.q 1 rfl rfl (by kernel_rfl) Sub.any (Qt.move rfl) ?_
  refine RW.q 2 rfl rfl (by kernel_rfl) Sub.any (Qt.nilCheck rfl) ?_
  refine RW.q 3 rfl rfl (by kernel_rfl) Sub.any (Qt.fieldAddr (off := 1) (by kernel_rfl) rfl) ?_
  first | refine RW.q 4 rfl rfl (by kernel_rfl) Sub.any (Qt.load (by kernel_rfl) rfl rfl) ?_ | refine RW.q 4 rfl rfl (by kernel_rfl) Sub.any (Qt.load (by kernel_rfl) rfl (map_at _ _ _ (by omega))) ?_ | refine RW.q 4 rfl rfl (by kernel_rfl) Sub.any (Qt.load (by kernel_rfl) rfl (flat_cell0 _ _ _ (by intros; rfl) _ (by omega) (by rfl))) ?_ | refine RW.q 4 rfl rfl (by kernel_rfl) Sub.any (Qt.load (by kernel_rfl) rfl (flat_cell _ _ _ (by intros; rfl) _ _ (by omega) (by rfl))) ?_ | refine RW.q 4 rfl rfl (by kernel_rfl) Sub.any (Qt.load (by kernel_rfl) rfl (bytes_at _ _ (by omega))) ?_
  refine RW.q 5 rfl rfl (by kernel_rfl) Sub.any (Qt.move rfl) ?_
  refine RW.q 6 rfl rfl (by kernel_rfl) Sub.any (Qt.move rfl) ?_
  refine RW.q 7 rfl rfl (by kernel_rfl) Sub.any (Qt.nilCheck rfl) ?_
  refine RW.q 8 rfl rfl (by kernel_rfl) Sub.any (Qt.fieldAddr (off := 1) (by kernel_rfl) rfl) ?_
  refine RW.q 9 rfl rfl (by kernel_rfl) Sub.any (Qt.load (v := .slice (some ⟨bv, ov, none⟩) k.kv.length k.vc) (by kernel_rfl) rfl (by rw [← hva]; rfl)) ?_
  refine RW.q 10 rfl rfl (by kernel_rfl) Sub.any (Qt.move rfl) ?_
  refine RW.q 11 rfl rfl (by kernel_rfl) Sub.any (Qt.index _ (e := 2) (sz := 1) (by kernel_rfl) rfl rfl rfl (by omega)) ?_
  refine RW.one 12 (by kernel_rfl) ?_
  first | refine RO.eS rfl rfl (Ef.qt (Qt.loadW (v := iV (k.kv[o - 1]'(by omega)).2) (by kernel_rfl) rfl (fun w ho => by have := hcv (o - 1) (by simp; omega) w (ho.map Sub.any); simpa using this)) ?_)
  refine ⟨Sub.any, ?_⟩
  refine RW.one 13 (by kernel_rfl) ?_
  refine RO.eS rfl rfl (Ef.one [_] (e := 2) (sz := 1) (by kernel_rfl) ⟨.int .i64 0, by kernel_rfl, rfl⟩ rfl rfl rfl (by omega) (by omega) ?_)
  intro g94
  refine ⟨Sub.any, ?_⟩
  refine RW.one 14 (by kernel_rfl) ?_
  refine RO.r rfl rfl (by kernel_rfl) (Ef.call (Lb.insertI B x.va x.kv.length x.vc i g94 (x.vs.map iV) (iV (k.kv[o - 1]'(by omega)).2) (by simp) hil (by omega) rfl (by intro v hv; obtain ⟨_, _, rfl⟩ := List.mem_map.1 hv; rfl)) Try.func47 rfl rfl rfl ?_)
  rintro _ _ ⟨p6, c6, rfl, ⟨h6, rfl⟩, rfl⟩
  try simp only [List.cons_append, List.nil_append]
  refine RW.done (by rfl) ?_
  simp only [List.drop_succ_cons, List.drop_zero, List.drop_nil]
  refine LW.q rfl (Qt.nilCheck rfl) ?_
  refine LW.q rfl (Qt.fieldAddr (off := 1) (by kernel_rfl) rfl) ?_
  refine LW.e0 rfl (Ef.store1 (by kernel_rfl) rfl rfl rfl (by first | (simp; done) | (simp; omega)) ?_)
  try simp only [List.set_cons_zero, List.set_cons_succ]
  refine LW.done ?_
  refine T.seq ?_
  refine T.region ?_
  refine LW.q rfl (Qt.move rfl) ?_
  refine LW.q rfl (Qt.move rfl) ?_
  refine LW.q rfl (Qt.nilCheck rfl) ?_
  refine LW.q rfl (Qt.fieldAddr (off := 2) (by kernel_rfl) rfl) ?_
  first | refine LW.q rfl (Qt.load (by kernel_rfl) rfl rfl) ?_ | refine LW.q rfl (Qt.load (by kernel_rfl) rfl (map_at _ _ _ (by omega))) ?_ | refine LW.q rfl (Qt.load (by kernel_rfl) rfl (flat_cell0 _ _ _ (by intros; rfl) _ (by omega) (by rfl))) ?_ | refine LW.q rfl (Qt.load (by kernel_rfl) rfl (flat_cell _ _ _ (by intros; rfl) _ _ (by omega) (by rfl))) ?_ | refine LW.q rfl (Qt.load (by kernel_rfl) rfl (bytes_at _ _ (by omega))) ?_
  refine LW.q rfl (Qt.move rfl) ?_
  refine LW.q rfl (Qt.add rfl rfl (wr64 (by omega) (by omega))) ?_
  refine LW.q rfl (Qt.move rfl) ?_
  refine LW.e rfl (Ef.one [_] (e := 95) (sz := 1) (by kernel_rfl) ⟨.pointer none, by kernel_rfl, rfl⟩ rfl rfl rfl (by omega) (by omega) ?_)
  intro g106
  refine LW.e rfl (Ef.call (Lb.insertN B x.ca ps.length x.cc (i + 1) g106 (ps.map pV) (pV g39) (by simp) (by omega) (by omega) rfl (by intro v hv; obtain ⟨_, _, rfl⟩ := List.mem_map.1 hv; rfl)) Try.func71 rfl rfl rfl ?_)
  rintro _ _ ⟨p7, c7, rfl, ⟨h7, rfl⟩, rfl⟩
  try simp only [List.cons_append, List.nil_append]
  refine LW.q rfl (Qt.nilCheck rfl) ?_
  refine LW.q rfl (Qt.fieldAddr (off := 2) (by kernel_rfl) rfl) ?_
  refine LW.e0 rfl (Ef.store1 (by kernel_rfl) rfl rfl rfl (by first | (simp; done) | (simp; omega)) ?_)
  try simp only [List.set_cons_zero, List.set_cons_succ]
  refine LW.done ?_
  refine T.draw 17 ([]) (by kernel_rfl) (Nat.le_of_ble_eq_true rfl) (by kernel_rfl) ?_
  refine RW.q 0 rfl rfl (by kernel_rfl) Sub.any (Qt.move rfl) ?_
  refine RW.q 1 rfl rfl (by kernel_rfl) Sub.any (Qt.move rfl) ?_
  refine RW.q 2 rfl rfl (by kernel_rfl) Sub.any (Qt.move rfl) ?_
  refine RW.q 3 rfl rfl (by kernel_rfl) Sub.any (Qt.nilCheck rfl) ?_
  refine RW.q 4 rfl rfl (by kernel_rfl) Sub.any (Qt.fieldAddr0 (by kernel_rfl) rfl) ?_
  refine RW.q 6 rfl rfl (by kernel_rfl) Sub.any (Qt.move rfl) ?_
  refine RW.q 8 rfl rfl (by kernel_rfl) Sub.any (Qt.move rfl) ?_
  refine RW.q 9 rfl rfl (by kernel_rfl) Sub.any (Qt.nilCheck rfl) ?_
  refine RW.q 10 rfl rfl (by kernel_rfl) Sub.any (Qt.fieldAddr (off := 1) (by kernel_rfl) rfl) ?_
  refine RW.q 12 rfl rfl (by kernel_rfl) Sub.any (Qt.move rfl) ?_
  refine RW.all [5, 11] (by kernel_rfl) (List.forall_mem_cons.2 ⟨?_, List.forall_mem_cons.2 ⟨?_, List.forall_mem_nil _⟩⟩)
  ·
   first | refine RO.eS rfl rfl (Ef.qt (Qt.load (by kernel_rfl) rfl rfl) ?_) | refine RO.eS rfl rfl (Ef.qt (Qt.load (by kernel_rfl) rfl (map_at _ _ _ (by omega))) ?_) | refine RO.eS rfl rfl (Ef.qt (Qt.load (by kernel_rfl) rfl (flat_cell0 _ _ _ (by intros; rfl) _ (by omega) (by rfl))) ?_) | refine RO.eS rfl rfl (Ef.qt (Qt.load (by kernel_rfl) rfl (flat_cell _ _ _ (by intros; rfl) _ _ (by omega) (by rfl))) ?_) | refine RO.eS rfl rfl (Ef.qt (Qt.load (by kernel_rfl) rfl (bytes_at _ _ (by omega))) ?_)
   refine ⟨Sub.any, ?_⟩
   refine RW.q 7 rfl rfl (by kernel_rfl) Sub.any (Qt.slice_nsn (o - 1) (e := 9) (sz := 1) (by kernel_rfl) rfl rfl rfl (by omega)) ?_
   refine RW.one 11 (by kernel_rfl) ?_
   first | refine RO.eS rfl rfl (Ef.qt (Qt.load (by kernel_rfl) rfl rfl) ?_) | refine RO.eS rfl rfl (Ef.qt (Qt.load (by kernel_rfl) rfl (map_at _ _ _ (by omega))) ?_) | refine RO.eS rfl rfl (Ef.qt (Qt.load (by kernel_rfl) rfl (flat_cell0 _ _ _ (by intros; rfl) _ (by omega) (by rfl))) ?_) | refine RO.eS rfl rfl (Ef.qt (Qt.load (by kernel_rfl) rfl (flat_cell _ _ _ (by intros; rfl) _ _ (by omega) (by rfl))) ?_) | refine RO.eS rfl rfl (Ef.qt (Qt.load (by kernel_rfl) rfl (bytes_at _ _ (by omega))) ?_)
   refine ⟨Sub.any, ?_⟩
   refine RW.q 13 rfl rfl (by kernel_rfl) Sub.any (Qt.slice_nsn (o - 1) (e := 2) (sz := 1) (by kernel_rfl) rfl rfl rfl (by omega)) ?_
   refine RW.q 14 rfl rfl (by kernel_rfl) Sub.any (Qt.nilCheck rfl) ?_
   refine RW.q 15 rfl rfl (by kernel_rfl) Sub.any (Qt.fieldAddr0 (by kernel_rfl) rfl) ?_
   refine RW.one 16 (by kernel_rfl) ?_
   refine RO.eS0 rfl rfl (Ef.store1 (by kernel_rfl) rfl rfl rfl (by first | (simp; done) | (simp; omega)) ?_)
   try simp only [List.set_cons_zero, List.set_cons_succ]
   refine ⟨Sub.any, ?_⟩
   refine RW.done (by rfl) ?_
   simp only [List.drop_succ_cons, List.drop_zero, List.drop_nil]
   refine LW.q rfl (Qt.nilCheck rfl) ?_
   refine LW.q rfl (Qt.fieldAddr (off := 1) (by kernel_rfl) rfl) ?_
   refine LW.e0 rfl (Ef.store1 (by kernel_rfl) rfl rfl rfl (by first | (simp; done) | (simp; omega)) ?_)
   try simp only [List.set_cons_zero, List.set_cons_succ]
   refine LW.done ?_
   first | exact ⟨.inr rfl, _, _, res [] rfl trivial, ⟨⟨x.p, insL x.kv i (k.kv[o - 1]'(by omega)), some ⟨h5, 0, none⟩, c5, some ⟨h6, 0, none⟩, c6, some ⟨h7, 0, none⟩, c7⟩, ⟨k.p, k.kv.take (o - 1), k.ka, k.kc, k.va, k.vc, k.ca, k.cc⟩, ⟨g39, k.kv.drop o, p1, c1, p2, c2, p3, c3⟩, rfl, rfl, rfl, rfl, rfl, rfl, rfl⟩, fun h H => by have H1 := Has.par (x := x) (m := k.kv[o - 1]'(by omega)) (p := g39) (ps := ps) (x' := ⟨x.p, insL x.kv i (k.kv[o - 1]'(by omega)), some ⟨h5, 0, none⟩, c5, some ⟨h6, 0, none⟩, c6, some ⟨h7, 0, none⟩, c7⟩) (qs := ps.take (i + 1) ++ g39 :: ps.drop (i + 1)) (l := blk k.p [.slice k.ka (o - 1) k.kc, .slice k.va (o - 1) k.vc, .slice k.ca o k.cc] 98 :: ndK k :: ndV k :: ndC k kps :: blk g39 [.slice p1 (k.kv.length - o) c1, .slice p2 (k.kv.length - o) c2, .slice p3 (kps.length - o) c3] 98 :: row (.slice p1 (k.kv.length - o) c1) 9 1 (k.kv.length - o) ((k.kv.drop o).map fun q => kT q.1) :: row (.slice p2 (k.kv.length - o) c2) 2 1 (k.kv.length - o) ((k.kv.drop o).map fun q => iV q.2) :: row (.slice p3 (kps.length - o) c3) 95 1 (kps.length - o) ((kps.drop o).map pV) :: trB g o r cnt :: F) rfl rfl hil (by omega) (Sub.any h H); have H2 := Has.lft (y := k) (ps := kps) (j := o - 1) (y' := ⟨k.p, k.kv.take (o - 1), k.ka, k.kc, k.va, k.vc, k.ca, k.cc⟩) (z := o) (l := blk g39 [.slice p1 (k.kv.length - o) c1, .slice p2 (k.kv.length - o) c2, .slice p3 (kps.length - o) c3] 98 :: row (.slice p1 (k.kv.length - o) c1) 9 1 (k.kv.length - o) ((k.kv.drop o).map fun q => kT q.1) :: row (.slice p2 (k.kv.length - o) c2) 2 1 (k.kv.length - o) ((k.kv.drop o).map fun q => iV q.2) :: row (.slice p3 (kps.length - o) c3) 95 1 (kps.length - o) ((kps.drop o).map pV) :: trB g o r cnt :: ndB (⟨x.p, insL x.kv i (k.kv[o - 1]'(by omega)), some ⟨h5, 0, none⟩, c5, some ⟨h6, 0, none⟩, c6, some ⟨h7, 0, none⟩, c7⟩ : Nd) (ps.take (i + 1) ++ g39 :: ps.drop (i + 1)).length :: ndK (⟨x.p, insL x.kv i (k.kv[o - 1]'(by omega)), some ⟨h5, 0, none⟩, c5, some ⟨h6, 0, none⟩, c6, some ⟨h7, 0, none⟩, c7⟩ : Nd) :: ndV (⟨x.p, insL x.kv i (k.kv[o - 1]'(by omega)), some ⟨h5, 0, none⟩, c5, some ⟨h6, 0, none⟩, c6, some ⟨h7, 0, none⟩, c7⟩ : Nd) :: ndC (⟨x.p, insL x.kv i (k.kv[o - 1]'(by omega)), some ⟨h5, 0, none⟩, c5, some ⟨h6, 0, none⟩, c6, some ⟨h7, 0, none⟩, c7⟩ : Nd) (ps.take (i + 1) ++ g39 :: ps.drop (i + 1)) :: F) rfl (by omega) (by omega) (by omega) (by first | exact .inr (by omega) | exact .inl hkl0) (Sub.any h H1); have H3 := Has.rgt (y := k) (ps := kps) (o := o) (z' := ⟨g39, k.kv.drop o, p1, c1, p2, c2, p3, c3⟩) (l := trB g o r cnt :: ndB (⟨k.p, k.kv.take (o - 1), k.ka, k.kc, k.va, k.vc, k.ca, k.cc⟩ : Nd) (kps.take o).length :: ndK (⟨k.p, k.kv.take (o - 1), k.ka, k.kc, k.va, k.vc, k.ca, k.cc⟩ : Nd) :: ndV (⟨k.p, k.kv.take (o - 1), k.ka, k.kc, k.va, k.vc, k.ca, k.cc⟩ : Nd) :: ndC (⟨k.p, k.kv.take (o - 1), k.ka, k.kc, k.va, k.vc, k.ca, k.cc⟩ : Nd) (kps.take o) :: ndB (⟨x.p, insL x.kv i (k.kv[o - 1]'(by omega)), some ⟨h5, 0, none⟩, c5, some ⟨h6, 0, none⟩, c6, some ⟨h7, 0, none⟩, c7⟩ : Nd) (ps.take (i + 1) ++ g39 :: ps.drop (i + 1)).length :: ndK (⟨x.p, insL x.kv i (k.kv[o - 1]'(by omega)), some ⟨h5, 0, none⟩, c5, some ⟨h6, 0, none⟩, c6, some ⟨h7, 0, none⟩, c7⟩ : Nd) :: ndV (⟨x.p, insL x.kv i (k.kv[o - 1]'(by omega)), some ⟨h5, 0, none⟩, c5, some ⟨h6, 0, none⟩, c6, some ⟨h7, 0, none⟩, c7⟩ : Nd) :: ndC (⟨x.p, insL x.kv i (k.kv[o - 1]'(by omega)), some ⟨h5, 0, none⟩, c5, some ⟨h6, 0, none⟩, c6, some ⟨h7, 0, none⟩, c7⟩ : Nd) (ps.take (i + 1) ++ g39 :: ps.drop (i + 1)) :: F) rfl rfl rfl (Sub.any h H2); simp only [nodeL, List.cons_append, List.nil_append]; exact Sub.any h H3⟩ | (subst hkl0; exact ⟨.inr rfl, _, _, res [] rfl trivial, ⟨⟨x.p, insL x.kv i (k.kv[o - 1]'(by omega)), some ⟨h5, 0, none⟩, c5, some ⟨h6, 0, none⟩, c6, some ⟨h7, 0, none⟩, c7⟩, ⟨k.p, k.kv.take (o - 1), k.ka, k.kc, k.va, k.vc, k.ca, k.cc⟩, ⟨g39, k.kv.drop o, p1, c1, p2, c2, none, 0⟩, rfl, rfl, rfl, rfl, rfl, rfl, rfl⟩, fun h H => by have H := Has.rowCast (xs' := (([] : List Nat).drop o).map pV) rfl rfl (by simp) (Has.rowNil (e := 95) (sz := 1) H); simp only [List.length_nil] at H; have H1 := Has.par (x := x) (m := k.kv[o - 1]'(by omega)) (p := g39) (ps := ps) (x' := ⟨x.p, insL x.kv i (k.kv[o - 1]'(by omega)), some ⟨h5, 0, none⟩, c5, some ⟨h6, 0, none⟩, c6, some ⟨h7, 0, none⟩, c7⟩) (qs := ps.take (i + 1) ++ g39 :: ps.drop (i + 1)) (l := blk k.p [.slice k.ka (o - 1) k.kc, .slice k.va (o - 1) k.vc, .slice k.ca 0 k.cc] 98 :: ndK k :: ndV k :: ndC k ([] : List Nat) :: blk g39 [.slice p1 (k.kv.length - o) c1, .slice p2 (k.kv.length - o) c2, .slice none 0 0] 98 :: row (.slice p1 (k.kv.length - o) c1) 9 1 (k.kv.length - o) ((k.kv.drop o).map fun q => kT q.1) :: row (.slice p2 (k.kv.length - o) c2) 2 1 (k.kv.length - o) ((k.kv.drop o).map fun q => iV q.2) :: row (.slice none 0 0) 95 1 0 ((([] : List Nat).drop o).map pV) :: trB g o r cnt :: F) rfl rfl hil (by omega) (Sub.any h H); have H2 := Has.lft (y := k) (ps := ([] : List Nat)) (j := o - 1) (y' := ⟨k.p, k.kv.take (o - 1), k.ka, k.kc, k.va, k.vc, k.ca, k.cc⟩) (z := 0) (l := blk g39 [.slice p1 (k.kv.length - o) c1, .slice p2 (k.kv.length - o) c2, .slice none 0 0] 98 :: row (.slice p1 (k.kv.length - o) c1) 9 1 (k.kv.length - o) ((k.kv.drop o).map fun q => kT q.1) :: row (.slice p2 (k.kv.length - o) c2) 2 1 (k.kv.length - o) ((k.kv.drop o).map fun q => iV q.2) :: row (.slice none 0 0) 95 1 0 ((([] : List Nat).drop o).map pV) :: trB g o r cnt :: ndB (⟨x.p, insL x.kv i (k.kv[o - 1]'(by omega)), some ⟨h5, 0, none⟩, c5, some ⟨h6, 0, none⟩, c6, some ⟨h7, 0, none⟩, c7⟩ : Nd) (ps.take (i + 1) ++ g39 :: ps.drop (i + 1)).length :: ndK (⟨x.p, insL x.kv i (k.kv[o - 1]'(by omega)), some ⟨h5, 0, none⟩, c5, some ⟨h6, 0, none⟩, c6, some ⟨h7, 0, none⟩, c7⟩ : Nd) :: ndV (⟨x.p, insL x.kv i (k.kv[o - 1]'(by omega)), some ⟨h5, 0, none⟩, c5, some ⟨h6, 0, none⟩, c6, some ⟨h7, 0, none⟩, c7⟩ : Nd) :: ndC (⟨x.p, insL x.kv i (k.kv[o - 1]'(by omega)), some ⟨h5, 0, none⟩, c5, some ⟨h6, 0, none⟩, c6, some ⟨h7, 0, none⟩, c7⟩ : Nd) (ps.take (i + 1) ++ g39 :: ps.drop (i + 1)) :: F) rfl (by omega) (by omega) (by omega) (by first | exact .inr (by omega) | exact .inl rfl) (Sub.any h H1); simp only [List.take_nil, List.length_nil] at H2; have H3 := Has.rgt (m := 0) (y := k) (ps := ([] : List Nat)) (o := o) (z' := ⟨g39, k.kv.drop o, p1, c1, p2, c2, none, 0⟩) (l := trB g o r cnt :: ndB (⟨k.p, k.kv.take (o - 1), k.ka, k.kc, k.va, k.vc, k.ca, k.cc⟩ : Nd) 0 :: ndK (⟨k.p, k.kv.take (o - 1), k.ka, k.kc, k.va, k.vc, k.ca, k.cc⟩ : Nd) :: ndV (⟨k.p, k.kv.take (o - 1), k.ka, k.kc, k.va, k.vc, k.ca, k.cc⟩ : Nd) :: ndC (⟨k.p, k.kv.take (o - 1), k.ka, k.kc, k.va, k.vc, k.ca, k.cc⟩ : Nd) ([] : List Nat) :: ndB (⟨x.p, insL x.kv i (k.kv[o - 1]'(by omega)), some ⟨h5, 0, none⟩, c5, some ⟨h6, 0, none⟩, c6, some ⟨h7, 0, none⟩, c7⟩ : Nd) (ps.take (i + 1) ++ g39 :: ps.drop (i + 1)).length :: ndK (⟨x.p, insL x.kv i (k.kv[o - 1]'(by omega)), some ⟨h5, 0, none⟩, c5, some ⟨h6, 0, none⟩, c6, some ⟨h7, 0, none⟩, c7⟩ : Nd) :: ndV (⟨x.p, insL x.kv i (k.kv[o - 1]'(by omega)), some ⟨h5, 0, none⟩, c5, some ⟨h6, 0, none⟩, c6, some ⟨h7, 0, none⟩, c7⟩ : Nd) :: ndC (⟨x.p, insL x.kv i (k.kv[o - 1]'(by omega)), some ⟨h5, 0, none⟩, c5, some ⟨h6, 0, none⟩, c6, some ⟨h7, 0, none⟩, c7⟩ : Nd) (ps.take (i + 1) ++ g39 :: ps.drop (i + 1)) :: F) rfl rfl (by simp) (Sub.any h H2); simp only [nodeL, List.take_nil, List.drop_nil, List.length_nil, List.map_nil, List.cons_append, List.nil_append] at H3 ⊢; exact Sub.any h H3⟩)
  ·
   first | refine RO.eS rfl rfl (Ef.qt (Qt.load (by kernel_rfl) rfl rfl) ?_) | refine RO.eS rfl rfl (Ef.qt (Qt.load (by kernel_rfl) rfl (map_at _ _ _ (by omega))) ?_) | refine RO.eS rfl rfl (Ef.qt (Qt.load (by kernel_rfl) rfl (flat_cell0 _ _ _ (by intros; rfl) _ (by omega) (by rfl))) ?_) | refine RO.eS rfl rfl (Ef.qt (Qt.load (by kernel_rfl) rfl (flat_cell _ _ _ (by intros; rfl) _ _ (by omega) (by rfl))) ?_) | refine RO.eS rfl rfl (Ef.qt (Qt.load (by kernel_rfl) rfl (bytes_at _ _ (by omega))) ?_)
   refine ⟨Sub.any, ?_⟩
   refine RW.q 13 rfl rfl (by kernel_rfl) Sub.any (Qt.slice_nsn (o - 1) (e := 2) (sz := 1) (by kernel_rfl) rfl rfl rfl (by omega)) ?_
   refine RW.one 5 (by kernel_rfl) ?_
   first | refine RO.eS rfl rfl (Ef.qt (Qt.load (by kernel_rfl) rfl rfl) ?_) | refine RO.eS rfl rfl (Ef.qt (Qt.load (by kernel_rfl) rfl (map_at _ _ _ (by omega))) ?_) | refine RO.eS rfl rfl (Ef.qt (Qt.load (by kernel_rfl) rfl (flat_cell0 _ _ _ (by intros; rfl) _ (by omega) (by rfl))) ?_) | refine RO.eS rfl rfl (Ef.qt (Qt.load (by kernel_rfl) rfl (flat_cell _ _ _ (by intros; rfl) _ _ (by omega) (by rfl))) ?_) | refine RO.eS rfl rfl (Ef.qt (Qt.load (by kernel_rfl) rfl (bytes_at _ _ (by omega))) ?_)
   refine ⟨Sub.any, ?_⟩
   refine RW.q 7 rfl rfl (by kernel_rfl) Sub.any (Qt.slice_nsn (o - 1) (e := 9) (sz := 1) (by kernel_rfl) rfl rfl rfl (by omega)) ?_
   refine RW.q 14 rfl rfl (by kernel_rfl) Sub.any (Qt.nilCheck rfl) ?_
   refine RW.q 15 rfl rfl (by kernel_rfl) Sub.any (Qt.fieldAddr0 (by kernel_rfl) rfl) ?_
   refine RW.one 16 (by kernel_rfl) ?_
   refine RO.eS0 rfl rfl (Ef.store1 (by kernel_rfl) rfl rfl rfl (by first | (simp; done) | (simp; omega)) ?_)
   try simp only [List.set_cons_zero, List.set_cons_succ]
   refine ⟨Sub.any, ?_⟩
   refine RW.done (by rfl) ?_
   simp only [List.drop_succ_cons, List.drop_zero, List.drop_nil]
   refine LW.q rfl (Qt.nilCheck rfl) ?_
   refine LW.q rfl (Qt.fieldAddr (off := 1) (by kernel_rfl) rfl) ?_
   refine LW.e0 rfl (Ef.store1 (by kernel_rfl) rfl rfl rfl (by first | (simp; done) | (simp; omega)) ?_)
   try simp only [List.set_cons_zero, List.set_cons_succ]
   refine LW.done ?_
   first | exact ⟨.inr rfl, _, _, res [] rfl trivial, ⟨⟨x.p, insL x.kv i (k.kv[o - 1]'(by omega)), some ⟨h5, 0, none⟩, c5, some ⟨h6, 0, none⟩, c6, some ⟨h7, 0, none⟩, c7⟩, ⟨k.p, k.kv.take (o - 1), k.ka, k.kc, k.va, k.vc, k.ca, k.cc⟩, ⟨g39, k.kv.drop o, p1, c1, p2, c2, p3, c3⟩, rfl, rfl, rfl, rfl, rfl, rfl, rfl⟩, fun h H => by have H1 := Has.par (x := x) (m := k.kv[o - 1]'(by omega)) (p := g39) (ps := ps) (x' := ⟨x.p, insL x.kv i (k.kv[o - 1]'(by omega)), some ⟨h5, 0, none⟩, c5, some ⟨h6, 0, none⟩, c6, some ⟨h7, 0, none⟩, c7⟩) (qs := ps.take (i + 1) ++ g39 :: ps.drop (i + 1)) (l := blk k.p [.slice k.ka (o - 1) k.kc, .slice k.va (o - 1) k.vc, .slice k.ca o k.cc] 98 :: ndK k :: ndV k :: ndC k kps :: blk g39 [.slice p1 (k.kv.length - o) c1, .slice p2 (k.kv.length - o) c2, .slice p3 (kps.length - o) c3] 98 :: row (.slice p1 (k.kv.length - o) c1) 9 1 (k.kv.length - o) ((k.kv.drop o).map fun q => kT q.1) :: row (.slice p2 (k.kv.length - o) c2) 2 1 (k.kv.length - o) ((k.kv.drop o).map fun q => iV q.2) :: row (.slice p3 (kps.length - o) c3) 95 1 (kps.length - o) ((kps.drop o).map pV) :: trB g o r cnt :: F) rfl rfl hil (by omega) (Sub.any h H); have H2 := Has.lft (y := k) (ps := kps) (j := o - 1) (y' := ⟨k.p, k.kv.take (o - 1), k.ka, k.kc, k.va, k.vc, k.ca, k.cc⟩) (z := o) (l := blk g39 [.slice p1 (k.kv.length - o) c1, .slice p2 (k.kv.length - o) c2, .slice p3 (kps.length - o) c3] 98 :: row (.slice p1 (k.kv.length - o) c1) 9 1 (k.kv.length - o) ((k.kv.drop o).map fun q => kT q.1) :: row (.slice p2 (k.kv.length - o) c2) 2 1 (k.kv.length - o) ((k.kv.drop o).map fun q => iV q.2) :: row (.slice p3 (kps.length - o) c3) 95 1 (kps.length - o) ((kps.drop o).map pV) :: trB g o r cnt :: ndB (⟨x.p, insL x.kv i (k.kv[o - 1]'(by omega)), some ⟨h5, 0, none⟩, c5, some ⟨h6, 0, none⟩, c6, some ⟨h7, 0, none⟩, c7⟩ : Nd) (ps.take (i + 1) ++ g39 :: ps.drop (i + 1)).length :: ndK (⟨x.p, insL x.kv i (k.kv[o - 1]'(by omega)), some ⟨h5, 0, none⟩, c5, some ⟨h6, 0, none⟩, c6, some ⟨h7, 0, none⟩, c7⟩ : Nd) :: ndV (⟨x.p, insL x.kv i (k.kv[o - 1]'(by omega)), some ⟨h5, 0, none⟩, c5, some ⟨h6, 0, none⟩, c6, some ⟨h7, 0, none⟩, c7⟩ : Nd) :: ndC (⟨x.p, insL x.kv i (k.kv[o - 1]'(by omega)), some ⟨h5, 0, none⟩, c5, some ⟨h6, 0, none⟩, c6, some ⟨h7, 0, none⟩, c7⟩ : Nd) (ps.take (i + 1) ++ g39 :: ps.drop (i + 1)) :: F) rfl (by omega) (by omega) (by omega) (by first | exact .inr (by omega) | exact .inl hkl0) (Sub.any h H1); have H3 := Has.rgt (y := k) (ps := kps) (o := o) (z' := ⟨g39, k.kv.drop o, p1, c1, p2, c2, p3, c3⟩) (l := trB g o r cnt :: ndB (⟨k.p, k.kv.take (o - 1), k.ka, k.kc, k.va, k.vc, k.ca, k.cc⟩ : Nd) (kps.take o).length :: ndK (⟨k.p, k.kv.take (o - 1), k.ka, k.kc, k.va, k.vc, k.ca, k.cc⟩ : Nd) :: ndV (⟨k.p, k.kv.take (o - 1), k.ka, k.kc, k.va, k.vc, k.ca, k.cc⟩ : Nd) :: ndC (⟨k.p, k.kv.take (o - 1), k.ka, k.kc, k.va, k.vc, k.ca, k.cc⟩ : Nd) (kps.take o) :: ndB (⟨x.p, insL x.kv i (k.kv[o - 1]'(by omega)), some ⟨h5, 0, none⟩, c5, some ⟨h6, 0, none⟩, c6, some ⟨h7, 0, none⟩, c7⟩ : Nd) (ps.take (i + 1) ++ g39 :: ps.drop (i + 1)).length :: ndK (⟨x.p, insL x.kv i (k.kv[o - 1]'(by omega)), some ⟨h5, 0, none⟩, c5, some ⟨h6, 0, none⟩, c6, some ⟨h7, 0, none⟩, c7⟩ : Nd) :: ndV (⟨x.p, insL x.kv i (k.kv[o - 1]'(by omega)), some ⟨h5, 0, none⟩, c5, some ⟨h6, 0, none⟩, c6, some ⟨h7, 0, none⟩, c7⟩ : Nd) :: ndC (⟨x.p, insL x.kv i (k.kv[o - 1]'(by omega)), some ⟨h5, 0, none⟩, c5, some ⟨h6, 0, none⟩, c6, some ⟨h7, 0, none⟩, c7⟩ : Nd) (ps.take (i + 1) ++ g39 :: ps.drop (i + 1)) :: F) rfl rfl rfl (Sub.any h H2); simp only [nodeL, List.cons_append, List.nil_append]; exact Sub.any h H3⟩ | (subst hkl0; exact ⟨.inr rfl, _, _, res [] rfl trivial, ⟨⟨x.p, insL x.kv i (k.kv[o - 1]'(by omega)), some ⟨h5, 0, none⟩, c5, some ⟨h6, 0, none⟩, c6, some ⟨h7, 0, none⟩, c7⟩, ⟨k.p, k.kv.take (o - 1), k.ka, k.kc, k.va, k.vc, k.ca, k.cc⟩, ⟨g39, k.kv.drop o, p1, c1, p2, c2, none, 0⟩, rfl, rfl, rfl, rfl, rfl, rfl, rfl⟩, fun h H => by have H := Has.rowCast (xs' := (([] : List Nat).drop o).map pV) rfl rfl (by simp) (Has.rowNil (e := 95) (sz := 1) H); simp only [List.length_nil] at H; have H1 := Has.par (x := x) (m := k.kv[o - 1]'(by omega)) (p := g39) (ps := ps) (x' := ⟨x.p, insL x.kv i (k.kv[o - 1]'(by omega)), some ⟨h5, 0, none⟩, c5, some ⟨h6, 0, none⟩, c6, some ⟨h7, 0, none⟩, c7⟩) (qs := ps.take (i + 1) ++ g39 :: ps.drop (i + 1)) (l := blk k.p [.slice k.ka (o - 1) k.kc, .slice k.va (o - 1) k.vc, .slice k.ca 0 k.cc] 98 :: ndK k :: ndV k :: ndC k ([] : List Nat) :: blk g39 [.slice p1 (k.kv.length - o) c1, .slice p2 (k.kv.length - o) c2, .slice none 0 0] 98 :: row (.slice p1 (k.kv.length - o) c1) 9 1 (k.kv.length - o) ((k.kv.drop o).map fun q => kT q.1) :: row (.slice p2 (k.kv.length - o) c2) 2 1 (k.kv.length - o) ((k.kv.drop o).map fun q => iV q.2) :: row (.slice none 0 0) 95 1 0 ((([] : List Nat).drop o).map pV) :: trB g o r cnt :: F) rfl rfl hil (by omega) (Sub.any h H); have H2 := Has.lft (y := k) (ps := ([] : List Nat)) (j := o - 1) (y' := ⟨k.p, k.kv.take (o - 1), k.ka, k.kc, k.va, k.vc, k.ca, k.cc⟩) (z := 0) (l := blk g39 [.slice p1 (k.kv.length - o) c1, .slice p2 (k.kv.length - o) c2, .slice none 0 0] 98 :: row (.slice p1 (k.kv.length - o) c1) 9 1 (k.kv.length - o) ((k.kv.drop o).map fun q => kT q.1) :: row (.slice p2 (k.kv.length - o) c2) 2 1 (k.kv.length - o) ((k.kv.drop o).map fun q => iV q.2) :: row (.slice none 0 0) 95 1 0 ((([] : List Nat).drop o).map pV) :: trB g o r cnt :: ndB (⟨x.p, insL x.kv i (k.kv[o - 1]'(by omega)), some ⟨h5, 0, none⟩, c5, some ⟨h6, 0, none⟩, c6, some ⟨h7, 0, none⟩, c7⟩ : Nd) (ps.take (i + 1) ++ g39 :: ps.drop (i + 1)).length :: ndK (⟨x.p, insL x.kv i (k.kv[o - 1]'(by omega)), some ⟨h5, 0, none⟩, c5, some ⟨h6, 0, none⟩, c6, some ⟨h7, 0, none⟩, c7⟩ : Nd) :: ndV (⟨x.p, insL x.kv i (k.kv[o - 1]'(by omega)), some ⟨h5, 0, none⟩, c5, some ⟨h6, 0, none⟩, c6, some ⟨h7, 0, none⟩, c7⟩ : Nd) :: ndC (⟨x.p, insL x.kv i (k.kv[o - 1]'(by omega)), some ⟨h5, 0, none⟩, c5, some ⟨h6, 0, none⟩, c6, some ⟨h7, 0, none⟩, c7⟩ : Nd) (ps.take (i + 1) ++ g39 :: ps.drop (i + 1)) :: F) rfl (by omega) (by omega) (by omega) (by first | exact .inr (by omega) | exact .inl rfl) (Sub.any h H1); simp only [List.take_nil, List.length_nil] at H2; have H3 := Has.rgt (m := 0) (y := k) (ps := ([] : List Nat)) (o := o) (z' := ⟨g39, k.kv.drop o, p1, c1, p2, c2, none, 0⟩) (l := trB g o r cnt :: ndB (⟨k.p, k.kv.take (o - 1), k.ka, k.kc, k.va, k.vc, k.ca, k.cc⟩ : Nd) 0 :: ndK (⟨k.p, k.kv.take (o - 1), k.ka, k.kc, k.va, k.vc, k.ca, k.cc⟩ : Nd) :: ndV (⟨k.p, k.kv.take (o - 1), k.ka, k.kc, k.va, k.vc, k.ca, k.cc⟩ : Nd) :: ndC (⟨k.p, k.kv.take (o - 1), k.ka, k.kc, k.va, k.vc, k.ca, k.cc⟩ : Nd) ([] : List Nat) :: ndB (⟨x.p, insL x.kv i (k.kv[o - 1]'(by omega)), some ⟨h5, 0, none⟩, c5, some ⟨h6, 0, none⟩, c6, some ⟨h7, 0, none⟩, c7⟩ : Nd) (ps.take (i + 1) ++ g39 :: ps.drop (i + 1)).length :: ndK (⟨x.p, insL x.kv i (k.kv[o - 1]'(by omega)), some ⟨h5, 0, none⟩, c5, some ⟨h6, 0, none⟩, c6, some ⟨h7, 0, none⟩, c7⟩ : Nd) :: ndV (⟨x.p, insL x.kv i (k.kv[o - 1]'(by omega)), some ⟨h5, 0, none⟩, c5, some ⟨h6, 0, none⟩, c6, some ⟨h7, 0, none⟩, c7⟩ : Nd) :: ndC (⟨x.p, insL x.kv i (k.kv[o - 1]'(by omega)), some ⟨h5, 0, none⟩, c5, some ⟨h6, 0, none⟩, c6, some ⟨h7, 0, none⟩, c7⟩ : Nd) (ps.take (i + 1) ++ g39 :: ps.drop (i + 1)) :: F) rfl rfl (by simp) (Sub.any h H2); simp only [nodeL, List.take_nil, List.drop_nil, List.length_nil, List.map_nil, List.cons_append, List.nil_append] at H3 ⊢; exact Sub.any h H3⟩)
 ·
  have hkl0 : kps = [] := List.eq_nil_of_length_eq_zero (by omega)
  refine T.skip ?_
  refine T.seq ?_
  refine T.drawBl 15 none (by kernel_rfl) (Nat.le_of_ble_eq_true rfl) (by kernel_rfl) ?_
  refine RW.q 0 rfl rfl (by kernel_rfl) Sub.any (Qt.move rfl) ?_
  refine RW.q 1 rfl rfl (by kernel_rfl) Sub.any (Qt.move rfl) ?_
  refine RW.q 2 rfl rfl (by kernel_rfl) Sub.any (Qt.nilCheck rfl) ?_
  refine RW.q 3 rfl rfl (by kernel_rfl) Sub.any (Qt.fieldAddr0 (by kernel_rfl) rfl) ?_
  first | refine RW.q 4 rfl rfl (by kernel_rfl) Sub.any (Qt.load (by kernel_rfl) rfl rfl) ?_ | refine RW.q 4 rfl rfl (by kernel_rfl) Sub.any (Qt.load (by kernel_rfl) rfl (map_at _ _ _ (by omega))) ?_ | refine RW.q 4 rfl rfl (by kernel_rfl) Sub.any (Qt.load (by kernel_rfl) rfl (flat_cell0 _ _ _ (by intros; rfl) _ (by omega) (by rfl))) ?_ | refine RW.q 4 rfl rfl (by kernel_rfl) Sub.any (Qt.load (by kernel_rfl) rfl (flat_cell _ _ _ (by intros; rfl) _ _ (by omega) (by rfl))) ?_ | refine RW.q 4 rfl rfl (by kernel_rfl) Sub.any (Qt.load (by kernel_rfl) rfl (bytes_at _ _ (by omega))) ?_
  refine RW.q 5 rfl rfl (by kernel_rfl) Sub.any (Qt.move rfl) ?_
  refine RW.q 6 rfl rfl (by kernel_rfl) Sub.any (Qt.move rfl) ?_
  refine RW.q 7 rfl rfl (by kernel_rfl) Sub.any (Qt.nilCheck rfl) ?_
  refine RW.q 8 rfl rfl (by kernel_rfl) Sub.any (Qt.fieldAddr0 (by kernel_rfl) rfl) ?_
  refine RW.q 9 rfl rfl (by kernel_rfl) Sub.any (Qt.load (v := .slice (some ⟨bk, ok, none⟩) k.kv.length k.kc) (by kernel_rfl) rfl (by rw [← hka]; rfl)) ?_
  refine RW.q 10 rfl rfl (by kernel_rfl) Sub.any (Qt.move rfl) ?_
  refine RW.q 11 rfl rfl (by kernel_rfl) Sub.any (Qt.index _ (e := 9) (sz := 1) (by kernel_rfl) rfl rfl rfl (by omega)) ?_
  refine RW.one 12 (by kernel_rfl) ?_
  first | refine RO.eS rfl rfl (Ef.qt (Qt.loadW (v := kT (k.kv[o - 1]'(by omega)).1) (by kernel_rfl) rfl (fun w ho => by have := hck (o - 1) (by simp; omega) w (ho.map Sub.any); simpa using this)) ?_)
  refine ⟨Sub.any, ?_⟩
  refine RW.one 13 (by kernel_rfl) ?_
  refine RO.eS rfl rfl (Ef.one [_] (e := 9) (sz := 1) (by kernel_rfl) ⟨.string .empty, by kernel_rfl, rfl⟩ rfl rfl rfl (by omega) (by omega) ?_)
  intro g77
  refine ⟨Sub.any, ?_⟩
  refine RW.one 14 (by kernel_rfl) ?_
  refine RO.r rfl rfl (by kernel_rfl) (Ef.call (Lb.insertS B x.ka x.kv.length x.kc i g77 (x.ks.map kT) (kT (k.kv[o - 1]'(by omega)).1) (by simp) hil (by omega) rfl one_kT) Try.func46 rfl rfl rfl ?_)
  rintro _ _ ⟨p5, c5, rfl, ⟨h5, rfl⟩, rfl⟩
  try simp only [List.cons_append, List.nil_append]
  refine RW.done (by rfl) ?_
  simp only [List.drop_succ_cons, List.drop_zero, List.drop_nil]
  refine LW.q rfl (Qt.nilCheck rfl) ?_
  refine LW.q rfl (Qt.fieldAddr0 (by kernel_rfl) rfl) ?_
  refine LW.e0 rfl (Ef.store1 (by kernel_rfl) rfl rfl rfl (by first | (simp; done) | (simp; omega)) ?_)
  try simp only [List.set_cons_zero, List.set_cons_succ]
  refine LW.done ?_
  refine T.seq ?_
  refine T.drawBl 15 none (by kernel_rfl) (Nat.le_of_ble_eq_true rfl) (by kernel_rfl) ?_
  refine RW.q 0 rfl rfl (by kernel_rfl) Sub.any (Qt.move rfl) ?_
  refine RW.q 1 rfl rfl (by kernel_rfl) Sub.any (Qt.move rfl) ?_
  refine RW.q 2 rfl rfl (by kernel_rfl) Sub.any (Qt.nilCheck rfl) ?_
  refine RW.q 3 rfl rfl (by kernel_rfl) Sub.any (Qt.fieldAddr (off := 1) (by kernel_rfl) rfl) ?_
  first | refine RW.q 4 rfl rfl (by kernel_rfl) Sub.any (Qt.load (by kernel_rfl) rfl rfl) ?_ | refine RW.q 4 rfl rfl (by kernel_rfl) Sub.any (Qt.load (by kernel_rfl) rfl (map_at _ _ _ (by omega))) ?_ | refine RW.q 4 rfl rfl (by kernel_rfl) Sub.any (Qt.load (by kernel_rfl) rfl (flat_cell0 _ _ _ (by intros; rfl) _ (by omega) (by rfl))) ?_ | refine RW.q 4 rfl rfl (by kernel_rfl) Sub.any (Qt.load (by kernel_rfl) rfl (flat_cell _ _ _ (by intros; rfl) _ _ (by omega) (by rfl))) ?_ | refine RW.q 4 rfl rfl (by kernel_rfl) Sub.any (Qt.load (by kernel_rfl) rfl (bytes_at _ _ (by omega))) ?_
  refine RW.q 5 rfl rfl (by kernel_rfl) Sub.any (Qt.move rfl) ?_
  refine RW.q 6 rfl rfl (by kernel_rfl) Sub.any (Qt.move rfl) ?_
  refine RW.q 7 rfl rfl (by kernel_rfl) Sub.any (Qt.nilCheck rfl) ?_
  refine RW.q 8 rfl rfl (by kernel_rfl) Sub.any (Qt.fieldAddr (off := 1) (by kernel_rfl) rfl) ?_
  refine RW.q 9 rfl rfl (by kernel_rfl) Sub.any (Qt.load (v := .slice (some ⟨bv, ov, none⟩) k.kv.length k.vc) (by kernel_rfl) rfl (by rw [← hva]; rfl)) ?_
  refine RW.q 10 rfl rfl (by kernel_rfl) Sub.any (Qt.move rfl) ?_
  refine RW.q 11 rfl rfl (by kernel_rfl) Sub.any (Qt.index _ (e := 2) (sz := 1) (by kernel_rfl) rfl rfl rfl (by omega)) ?_
  refine RW.one 12 (by kernel_rfl) ?_
  first | refine RO.eS rfl rfl (Ef.qt (Qt.loadW (v := iV (k.kv[o - 1]'(by omega)).2) (by kernel_rfl) rfl (fun w ho => by have := hcv (o - 1) (by simp; omega) w (ho.map Sub.any); simpa using this)) ?_)
  refine ⟨Sub.any, ?_⟩
  refine RW.one 13 (by kernel_rfl) ?_
  refine RO.eS rfl rfl (Ef.one [_] (e := 2) (sz := 1) (by kernel_rfl) ⟨.int .i64 0, by kernel_rfl, rfl⟩ rfl rfl rfl (by omega) (by omega) ?_)
  intro g94
  refine ⟨Sub.any, ?_⟩
  refine RW.one 14 (by kernel_rfl) ?_
  refine RO.r rfl rfl (by kernel_rfl) (Ef.call (Lb.insertI B x.va x.kv.length x.vc i g94 (x.vs.map iV) (iV (k.kv[o - 1]'(by omega)).2) (by simp) hil (by omega) rfl (by intro v hv; obtain ⟨_, _, rfl⟩ := List.mem_map.1 hv; rfl)) Try.func47 rfl rfl rfl ?_)
  rintro _ _ ⟨p6, c6, rfl, ⟨h6, rfl⟩, rfl⟩
  try simp only [List.cons_append, List.nil_append]
  refine RW.done (by rfl) ?_
  simp only [List.drop_succ_cons, List.drop_zero, List.drop_nil]
  refine LW.q rfl (Qt.nilCheck rfl) ?_
  refine LW.q rfl (Qt.fieldAddr (off := 1) (by kernel_rfl) rfl) ?_
  refine LW.e0 rfl (Ef.store1 (by kernel_rfl) rfl rfl rfl (by first | (simp; done) | (simp; omega)) ?_)
  try simp only [List.set_cons_zero, List.set_cons_succ]
  refine LW.done ?_
  refine T.seq ?_
  refine T.region ?_
  refine LW.q rfl (Qt.move rfl) ?_
  refine LW.q rfl (Qt.move rfl) ?_
  refine LW.q rfl (Qt.nilCheck rfl) ?_
  refine LW.q rfl (Qt.fieldAddr (off := 2) (by kernel_rfl) rfl) ?_
  first | refine LW.q rfl (Qt.load (by kernel_rfl) rfl rfl) ?_ | refine LW.q rfl (Qt.load (by kernel_rfl) rfl (map_at _ _ _ (by omega))) ?_ | refine LW.q rfl (Qt.load (by kernel_rfl) rfl (flat_cell0 _ _ _ (by intros; rfl) _ (by omega) (by rfl))) ?_ | refine LW.q rfl (Qt.load (by kernel_rfl) rfl (flat_cell _ _ _ (by intros; rfl) _ _ (by omega) (by rfl))) ?_ | refine LW.q rfl (Qt.load (by kernel_rfl) rfl (bytes_at _ _ (by omega))) ?_
  refine LW.q rfl (Qt.move rfl) ?_
  refine LW.q rfl (Qt.add rfl rfl (wr64 (by omega) (by omega))) ?_
  refine LW.q rfl (Qt.move rfl) ?_
  refine LW.e rfl (Ef.one [_] (e := 95) (sz := 1) (by kernel_rfl) ⟨.pointer none, by kernel_rfl, rfl⟩ rfl rfl rfl (by omega) (by omega) ?_)
  intro g106
  refine LW.e rfl (Ef.call (Lb.insertN B x.ca ps.length x.cc (i + 1) g106 (ps.map pV) (pV g39) (by simp) (by omega) (by omega) rfl (by intro v hv; obtain ⟨_, _, rfl⟩ := List.mem_map.1 hv; rfl)) Try.func71 rfl rfl rfl ?_)
  rintro _ _ ⟨p7, c7, rfl, ⟨h7, rfl⟩, rfl⟩
  try simp only [List.cons_append, List.nil_append]
  refine LW.q rfl (Qt.nilCheck rfl) ?_
  refine LW.q rfl (Qt.fieldAddr (off := 2) (by kernel_rfl) rfl) ?_
  refine LW.e0 rfl (Ef.store1 (by kernel_rfl) rfl rfl rfl (by first | (simp; done) | (simp; omega)) ?_)
  try simp only [List.set_cons_zero, List.set_cons_succ]
  refine LW.done ?_
  refine T.draw 17 ([]) (by kernel_rfl) (Nat.le_of_ble_eq_true rfl) (by kernel_rfl) ?_
  refine RW.q 0 rfl rfl (by kernel_rfl) Sub.any (Qt.move rfl) ?_
  refine RW.q 1 rfl rfl (by kernel_rfl) Sub.any (Qt.move rfl) ?_
  refine RW.q 2 rfl rfl (by kernel_rfl) Sub.any (Qt.move rfl) ?_
  refine RW.q 3 rfl rfl (by kernel_rfl) Sub.any (Qt.nilCheck rfl) ?_
  refine RW.q 4 rfl rfl (by kernel_rfl) Sub.any (Qt.fieldAddr0 (by kernel_rfl) rfl) ?_
  refine RW.q 6 rfl rfl (by kernel_rfl) Sub.any (Qt.move rfl) ?_
  refine RW.q 8 rfl rfl (by kernel_rfl) Sub.any (Qt.move rfl) ?_
  refine RW.q 9 rfl rfl (by kernel_rfl) Sub.any (Qt.nilCheck rfl) ?_
  refine RW.q 10 rfl rfl (by kernel_rfl) Sub.any (Qt.fieldAddr (off := 1) (by kernel_rfl) rfl) ?_
  refine RW.q 12 rfl rfl (by kernel_rfl) Sub.any (Qt.move rfl) ?_
  refine RW.all [5, 11] (by kernel_rfl) (List.forall_mem_cons.2 ⟨?_, List.forall_mem_cons.2 ⟨?_, List.forall_mem_nil _⟩⟩)
  ·
   first | refine RO.eS rfl rfl (Ef.qt (Qt.load (by kernel_rfl) rfl rfl) ?_) | refine RO.eS rfl rfl (Ef.qt (Qt.load (by kernel_rfl) rfl (map_at _ _ _ (by omega))) ?_) | refine RO.eS rfl rfl (Ef.qt (Qt.load (by kernel_rfl) rfl (flat_cell0 _ _ _ (by intros; rfl) _ (by omega) (by rfl))) ?_) | refine RO.eS rfl rfl (Ef.qt (Qt.load (by kernel_rfl) rfl (flat_cell _ _ _ (by intros; rfl) _ _ (by omega) (by rfl))) ?_) | refine RO.eS rfl rfl (Ef.qt (Qt.load (by kernel_rfl) rfl (bytes_at _ _ (by omega))) ?_)
   refine ⟨Sub.any, ?_⟩
   refine RW.q 7 rfl rfl (by kernel_rfl) Sub.any (Qt.slice_nsn (o - 1) (e := 9) (sz := 1) (by kernel_rfl) rfl rfl rfl (by omega)) ?_
   refine RW.one 11 (by kernel_rfl) ?_
   first | refine RO.eS rfl rfl (Ef.qt (Qt.load (by kernel_rfl) rfl rfl) ?_) | refine RO.eS rfl rfl (Ef.qt (Qt.load (by kernel_rfl) rfl (map_at _ _ _ (by omega))) ?_) | refine RO.eS rfl rfl (Ef.qt (Qt.load (by kernel_rfl) rfl (flat_cell0 _ _ _ (by intros; rfl) _ (by omega) (by rfl))) ?_) | refine RO.eS rfl rfl (Ef.qt (Qt.load (by kernel_rfl) rfl (flat_cell _ _ _ (by intros; rfl) _ _ (by omega) (by rfl))) ?_) | refine RO.eS rfl rfl (Ef.qt (Qt.load (by kernel_rfl) rfl (bytes_at _ _ (by omega))) ?_)
   refine ⟨Sub.any, ?_⟩
   refine RW.q 13 rfl rfl (by kernel_rfl) Sub.any (Qt.slice_nsn (o - 1) (e := 2) (sz := 1) (by kernel_rfl) rfl rfl rfl (by omega)) ?_
   refine RW.q 14 rfl rfl (by kernel_rfl) Sub.any (Qt.nilCheck rfl) ?_
   refine RW.q 15 rfl rfl (by kernel_rfl) Sub.any (Qt.fieldAddr0 (by kernel_rfl) rfl) ?_
   refine RW.one 16 (by kernel_rfl) ?_
   refine RO.eS0 rfl rfl (Ef.store1 (by kernel_rfl) rfl rfl rfl (by first | (simp; done) | (simp; omega)) ?_)
   try simp only [List.set_cons_zero, List.set_cons_succ]
   refine ⟨Sub.any, ?_⟩
   refine RW.done (by rfl) ?_
   simp only [List.drop_succ_cons, List.drop_zero, List.drop_nil]
   refine LW.q rfl (Qt.nilCheck rfl) ?_
   refine LW.q rfl (Qt.fieldAddr (off := 1) (by kernel_rfl) rfl) ?_
   refine LW.e0 rfl (Ef.store1 (by kernel_rfl) rfl rfl rfl (by first | (simp; done) | (simp; omega)) ?_)
   try simp only [List.set_cons_zero, List.set_cons_succ]
   refine LW.done ?_
   first | exact ⟨.inr rfl, _, _, res [] rfl trivial, ⟨⟨x.p, insL x.kv i (k.kv[o - 1]'(by omega)), some ⟨h5, 0, none⟩, c5, some ⟨h6, 0, none⟩, c6, some ⟨h7, 0, none⟩, c7⟩, ⟨k.p, k.kv.take (o - 1), k.ka, k.kc, k.va, k.vc, k.ca, k.cc⟩, ⟨g39, k.kv.drop o, p1, c1, p2, c2, p3, c3⟩, rfl, rfl, rfl, rfl, rfl, rfl, rfl⟩, fun h H => by have H1 := Has.par (x := x) (m := k.kv[o - 1]'(by omega)) (p := g39) (ps := ps) (x' := ⟨x.p, insL x.kv i (k.kv[o - 1]'(by omega)), some ⟨h5, 0, none⟩, c5, some ⟨h6, 0, none⟩, c6, some ⟨h7, 0, none⟩, c7⟩) (qs := ps.take (i + 1) ++ g39 :: ps.drop (i + 1)) (l := blk k.p [.slice k.ka (o - 1) k.kc, .slice k.va (o - 1) k.vc, .slice k.ca o k.cc] 98 :: ndK k :: ndV k :: ndC k kps :: blk g39 [.slice p1 (k.kv.length - o) c1, .slice p2 (k.kv.length - o) c2, .slice p3 (kps.length - o) c3] 98 :: row (.slice p1 (k.kv.length - o) c1) 9 1 (k.kv.length - o) ((k.kv.drop o).map fun q => kT q.1) :: row (.slice p2 (k.kv.length - o) c2) 2 1 (k.kv.length - o) ((k.kv.drop o).map fun q => iV q.2) :: row (.slice p3 (kps.length - o) c3) 95 1 (kps.length - o) ((kps.drop o).map pV) :: trB g o r cnt :: F) rfl rfl hil (by omega) (Sub.any h H); have H2 := Has.lft (y := k) (ps := kps) (j := o - 1) (y' := ⟨k.p, k.kv.take (o - 1), k.ka, k.kc, k.va, k.vc, k.ca, k.cc⟩) (z := o) (l := blk g39 [.slice p1 (k.kv.length - o) c1, .slice p2 (k.kv.length - o) c2, .slice p3 (kps.length - o) c3] 98 :: row (.slice p1 (k.kv.length - o) c1) 9 1 (k.kv.length - o) ((k.kv.drop o).map fun q => kT q.1) :: row (.slice p2 (k.kv.length - o) c2) 2 1 (k.kv.length - o) ((k.kv.drop o).map fun q => iV q.2) :: row (.slice p3 (kps.length - o) c3) 95 1 (kps.length - o) ((kps.drop o).map pV) :: trB g o r cnt :: ndB (⟨x.p, insL x.kv i (k.kv[o - 1]'(by omega)), some ⟨h5, 0, none⟩, c5, some ⟨h6, 0, none⟩, c6, some ⟨h7, 0, none⟩, c7⟩ : Nd) (ps.take (i + 1) ++ g39 :: ps.drop (i + 1)).length :: ndK (⟨x.p, insL x.kv i (k.kv[o - 1]'(by omega)), some ⟨h5, 0, none⟩, c5, some ⟨h6, 0, none⟩, c6, some ⟨h7, 0, none⟩, c7⟩ : Nd) :: ndV (⟨x.p, insL x.kv i (k.kv[o - 1]'(by omega)), some ⟨h5, 0, none⟩, c5, some ⟨h6, 0, none⟩, c6, some ⟨h7, 0, none⟩, c7⟩ : Nd) :: ndC (⟨x.p, insL x.kv i (k.kv[o - 1]'(by omega)), some ⟨h5, 0, none⟩, c5, some ⟨h6, 0, none⟩, c6, some ⟨h7, 0, none⟩, c7⟩ : Nd) (ps.take (i + 1) ++ g39 :: ps.drop (i + 1)) :: F) rfl (by omega) (by omega) (by omega) (by first | exact .inr (by omega) | exact .inl hkl0) (Sub.any h H1); have H3 := Has.rgt (y := k) (ps := kps) (o := o) (z' := ⟨g39, k.kv.drop o, p1, c1, p2, c2, p3, c3⟩) (l := trB g o r cnt :: ndB (⟨k.p, k.kv.take (o - 1), k.ka, k.kc, k.va, k.vc, k.ca, k.cc⟩ : Nd) (kps.take o).length :: ndK (⟨k.p, k.kv.take (o - 1), k.ka, k.kc, k.va, k.vc, k.ca, k.cc⟩ : Nd) :: ndV (⟨k.p, k.kv.take (o - 1), k.ka, k.kc, k.va, k.vc, k.ca, k.cc⟩ : Nd) :: ndC (⟨k.p, k.kv.take (o - 1), k.ka, k.kc, k.va, k.vc, k.ca, k.cc⟩ : Nd) (kps.take o) :: ndB (⟨x.p, insL x.kv i (k.kv[o - 1]'(by omega)), some ⟨h5, 0, none⟩, c5, some ⟨h6, 0, none⟩, c6, some ⟨h7, 0, none⟩, c7⟩ : Nd) (ps.take (i + 1) ++ g39 :: ps.drop (i + 1)).length :: ndK (⟨x.p, insL x.kv i (k.kv[o - 1]'(by omega)), some ⟨h5, 0, none⟩, c5, some ⟨h6, 0, none⟩, c6, some ⟨h7, 0, none⟩, c7⟩ : Nd) :: ndV (⟨x.p, insL x.kv i (k.kv[o - 1]'(by omega)), some ⟨h5, 0, none⟩, c5, some ⟨h6, 0, none⟩, c6, some ⟨h7, 0, none⟩, c7⟩ : Nd) :: ndC (⟨x.p, insL x.kv i (k.kv[o - 1]'(by omega)), some ⟨h5, 0, none⟩, c5, some ⟨h6, 0, none⟩, c6, some ⟨h7, 0, none⟩, c7⟩ : Nd) (ps.take (i + 1) ++ g39 :: ps.drop (i + 1)) :: F) rfl rfl rfl (Sub.any h H2); simp only [nodeL, List.cons_append, List.nil_append]; exact Sub.any h H3⟩ | (subst hkl0; exact ⟨.inr rfl, _, _, res [] rfl trivial, ⟨⟨x.p, insL x.kv i (k.kv[o - 1]'(by omega)), some ⟨h5, 0, none⟩, c5, some ⟨h6, 0, none⟩, c6, some ⟨h7, 0, none⟩, c7⟩, ⟨k.p, k.kv.take (o - 1), k.ka, k.kc, k.va, k.vc, k.ca, k.cc⟩, ⟨g39, k.kv.drop o, p1, c1, p2, c2, none, 0⟩, rfl, rfl, rfl, rfl, rfl, rfl, rfl⟩, fun h H => by have H := Has.rowCast (xs' := (([] : List Nat).drop o).map pV) rfl rfl (by simp) (Has.rowNil (e := 95) (sz := 1) H); simp only [List.length_nil] at H; have H1 := Has.par (x := x) (m := k.kv[o - 1]'(by omega)) (p := g39) (ps := ps) (x' := ⟨x.p, insL x.kv i (k.kv[o - 1]'(by omega)), some ⟨h5, 0, none⟩, c5, some ⟨h6, 0, none⟩, c6, some ⟨h7, 0, none⟩, c7⟩) (qs := ps.take (i + 1) ++ g39 :: ps.drop (i + 1)) (l := blk k.p [.slice k.ka (o - 1) k.kc, .slice k.va (o - 1) k.vc, .slice k.ca 0 k.cc] 98 :: ndK k :: ndV k :: ndC k ([] : List Nat) :: blk g39 [.slice p1 (k.kv.length - o) c1, .slice p2 (k.kv.length - o) c2, .slice none 0 0] 98 :: row (.slice p1 (k.kv.length - o) c1) 9 1 (k.kv.length - o) ((k.kv.drop o).map fun q => kT q.1) :: row (.slice p2 (k.kv.length - o) c2) 2 1 (k.kv.length - o) ((k.kv.drop o).map fun q => iV q.2) :: row (.slice none 0 0) 95 1 0 ((([] : List Nat).drop o).map pV) :: trB g o r cnt :: F) rfl rfl hil (by omega) (Sub.any h H); have H2 := Has.lft (y := k) (ps := ([] : List Nat)) (j := o - 1) (y' := ⟨k.p, k.kv.take (o - 1), k.ka, k.kc, k.va, k.vc, k.ca, k.cc⟩) (z := 0) (l := blk g39 [.slice p1 (k.kv.length - o) c1, .slice p2 (k.kv.length - o) c2, .slice none 0 0] 98 :: row (.slice p1 (k.kv.length - o) c1) 9 1 (k.kv.length - o) ((k.kv.drop o).map fun q => kT q.1) :: row (.slice p2 (k.kv.length - o) c2) 2 1 (k.kv.length - o) ((k.kv.drop o).map fun q => iV q.2) :: row (.slice none 0 0) 95 1 0 ((([] : List Nat).drop o).map pV) :: trB g o r cnt :: ndB (⟨x.p, insL x.kv i (k.kv[o - 1]'(by omega)), some ⟨h5, 0, none⟩, c5, some ⟨h6, 0, none⟩, c6, some ⟨h7, 0, none⟩, c7⟩ : Nd) (ps.take (i + 1) ++ g39 :: ps.drop (i + 1)).length :: ndK (⟨x.p, insL x.kv i (k.kv[o - 1]'(by omega)), some ⟨h5, 0, none⟩, c5, some ⟨h6, 0, none⟩, c6, some ⟨h7, 0, none⟩, c7⟩ : Nd) :: ndV (⟨x.p, insL x.kv i (k.kv[o - 1]'(by omega)), some ⟨h5, 0, none⟩, c5, some ⟨h6, 0, none⟩, c6, some ⟨h7, 0, none⟩, c7⟩ : Nd) :: ndC (⟨x.p, insL x.kv i (k.kv[o - 1]'(by omega)), some ⟨h5, 0, none⟩, c5, some ⟨h6, 0, none⟩, c6, some ⟨h7, 0, none⟩, c7⟩ : Nd) (ps.take (i + 1) ++ g39 :: ps.drop (i + 1)) :: F) rfl (by omega) (by omega) (by omega) (by first | exact .inr (by omega) | exact .inl rfl) (Sub.any h H1); simp only [List.take_nil, List.length_nil] at H2; have H3 := Has.rgt (m := 0) (y := k) (ps := ([] : List Nat)) (o := o) (z' := ⟨g39, k.kv.drop o, p1, c1, p2, c2, none, 0⟩) (l := trB g o r cnt :: ndB (⟨k.p, k.kv.take (o - 1), k.ka, k.kc, k.va, k.vc, k.ca, k.cc⟩ : Nd) 0 :: ndK (⟨k.p, k.kv.take (o - 1), k.ka, k.kc, k.va, k.vc, k.ca, k.cc⟩ : Nd) :: ndV (⟨k.p, k.kv.take (o - 1), k.ka, k.kc, k.va, k.vc, k.ca, k.cc⟩ : Nd) :: ndC (⟨k.p, k.kv.take (o - 1), k.ka, k.kc, k.va, k.vc, k.ca, k.cc⟩ : Nd) ([] : List Nat) :: ndB (⟨x.p, insL x.kv i (k.kv[o - 1]'(by omega)), some ⟨h5, 0, none⟩, c5, some ⟨h6, 0, none⟩, c6, some ⟨h7, 0, none⟩, c7⟩ : Nd) (ps.take (i + 1) ++ g39 :: ps.drop (i + 1)).length :: ndK (⟨x.p, insL x.kv i (k.kv[o - 1]'(by omega)), some ⟨h5, 0, none⟩, c5, some ⟨h6, 0, none⟩, c6, some ⟨h7, 0, none⟩, c7⟩ : Nd) :: ndV (⟨x.p, insL x.kv i (k.kv[o - 1]'(by omega)), some ⟨h5, 0, none⟩, c5, some ⟨h6, 0, none⟩, c6, some ⟨h7, 0, none⟩, c7⟩ : Nd) :: ndC (⟨x.p, insL x.kv i (k.kv[o - 1]'(by omega)), some ⟨h5, 0, none⟩, c5, some ⟨h6, 0, none⟩, c6, some ⟨h7, 0, none⟩, c7⟩ : Nd) (ps.take (i + 1) ++ g39 :: ps.drop (i + 1)) :: F) rfl rfl (by simp) (Sub.any h H2); simp only [nodeL, List.take_nil, List.drop_nil, List.length_nil, List.map_nil, List.cons_append, List.nil_append] at H3 ⊢; exact Sub.any h H3⟩)
  ·
   first | refine RO.eS rfl rfl (Ef.qt (Qt.load (by kernel_rfl) rfl rfl) ?_) | refine RO.eS rfl rfl (Ef.qt (Qt.load (by kernel_rfl) rfl (map_at _ _ _ (by omega))) ?_) | refine RO.eS rfl rfl (Ef.qt (Qt.load (by kernel_rfl) rfl (flat_cell0 _ _ _ (by intros; rfl) _ (by omega) (by rfl))) ?_) | refine RO.eS rfl rfl (Ef.qt (Qt.load (by kernel_rfl) rfl (flat_cell _ _ _ (by intros; rfl) _ _ (by omega) (by rfl))) ?_) | refine RO.eS rfl rfl (Ef.qt (Qt.load (by kernel_rfl) rfl (bytes_at _ _ (by omega))) ?_)
   refine ⟨Sub.any, ?_⟩
   refine RW.q 13 rfl rfl (by kernel_rfl) Sub.any (Qt.slice_nsn (o - 1) (e := 2) (sz := 1) (by kernel_rfl) rfl rfl rfl (by omega)) ?_
   refine RW.one 5 (by kernel_rfl) ?_
   first | refine RO.eS rfl rfl (Ef.qt (Qt.load (by kernel_rfl) rfl rfl) ?_) | refine RO.eS rfl rfl (Ef.qt (Qt.load (by kernel_rfl) rfl (map_at _ _ _ (by omega))) ?_) | refine RO.eS rfl rfl (Ef.qt (Qt.load (by kernel_rfl) rfl (flat_cell0 _ _ _ (by intros; rfl) _ (by omega) (by rfl))) ?_) | refine RO.eS rfl rfl (Ef.qt (Qt.load (by kernel_rfl) rfl (flat_cell _ _ _ (by intros; rfl) _ _ (by omega) (by rfl))) ?_) | refine RO.eS rfl rfl (Ef.qt (Qt.load (by kernel_rfl) rfl (bytes_at _ _ (by omega))) ?_)
   refine ⟨Sub.any, ?_⟩
   refine RW.q 7 rfl rfl (by kernel_rfl) Sub.any (Qt.slice_nsn (o - 1) (e := 9) (sz := 1) (by kernel_rfl) rfl rfl rfl (by omega)) ?_
   refine RW.q 14 rfl rfl (by kernel_rfl) Sub.any (Qt.nilCheck rfl) ?_
   refine RW.q 15 rfl rfl (by kernel_rfl) Sub.any (Qt.fieldAddr0 (by kernel_rfl) rfl) ?_
   refine RW.one 16 (by kernel_rfl) ?_
   refine RO.eS0 rfl rfl (Ef.store1 (by kernel_rfl) rfl rfl rfl (by first | (simp; done) | (simp; omega)) ?_)
   try simp only [List.set_cons_zero, List.set_cons_succ]
   refine ⟨Sub.any, ?_⟩
   refine RW.done (by rfl) ?_
   simp only [List.drop_succ_cons, List.drop_zero, List.drop_nil]
   refine LW.q rfl (Qt.nilCheck rfl) ?_
   refine LW.q rfl (Qt.fieldAddr (off := 1) (by kernel_rfl) rfl) ?_
   refine LW.e0 rfl (Ef.store1 (by kernel_rfl) rfl rfl rfl (by first | (simp; done) | (simp; omega)) ?_)
   try simp only [List.set_cons_zero, List.set_cons_succ]
   refine LW.done ?_
   first | exact ⟨.inr rfl, _, _, res [] rfl trivial, ⟨⟨x.p, insL x.kv i (k.kv[o - 1]'(by omega)), some ⟨h5, 0, none⟩, c5, some ⟨h6, 0, none⟩, c6, some ⟨h7, 0, none⟩, c7⟩, ⟨k.p, k.kv.take (o - 1), k.ka, k.kc, k.va, k.vc, k.ca, k.cc⟩, ⟨g39, k.kv.drop o, p1, c1, p2, c2, p3, c3⟩, rfl, rfl, rfl, rfl, rfl, rfl, rfl⟩, fun h H => by have H1 := Has.par (x := x) (m := k.kv[o - 1]'(by omega)) (p := g39) (ps := ps) (x' := ⟨x.p, insL x.kv i (k.kv[o - 1]'(by omega)), some ⟨h5, 0, none⟩, c5, some ⟨h6, 0, none⟩, c6, some ⟨h7, 0, none⟩, c7⟩) (qs := ps.take (i + 1) ++ g39 :: ps.drop (i + 1)) (l := blk k.p [.slice k.ka (o - 1) k.kc, .slice k.va (o - 1) k.vc, .slice k.ca o k.cc] 98 :: ndK k :: ndV k :: ndC k kps :: blk g39 [.slice p1 (k.kv.length - o) c1, .slice p2 (k.kv.length - o) c2, .slice p3 (kps.length - o) c3] 98 :: row (.slice p1 (k.kv.length - o) c1) 9 1 (k.kv.length - o) ((k.kv.drop o).map fun q => kT q.1) :: row (.slice p2 (k.kv.length - o) c2) 2 1 (k.kv.length - o) ((k.kv.drop o).map fun q => iV q.2) :: row (.slice p3 (kps.length - o) c3) 95 1 (kps.length - o) ((kps.drop o).map pV) :: trB g o r cnt :: F) rfl rfl hil (by omega) (Sub.any h H); have H2 := Has.lft (y := k) (ps := kps) (j := o - 1) (y' := ⟨k.p, k.kv.take (o - 1), k.ka, k.kc, k.va, k.vc, k.ca, k.cc⟩) (z := o) (l := blk g39 [.slice p1 (k.kv.length - o) c1, .slice p2 (k.kv.length - o) c2, .slice p3 (kps.length - o) c3] 98 :: row (.slice p1 (k.kv.length - o) c1) 9 1 (k.kv.length - o) ((k.kv.drop o).map fun q => kT q.1) :: row (.slice p2 (k.kv.length - o) c2) 2 1 (k.kv.length - o) ((k.kv.drop o).map fun q => iV q.2) :: row (.slice p3 (kps.length - o) c3) 95 1 (kps.length - o) ((kps.drop o).map pV) :: trB g o r cnt :: ndB (⟨x.p, insL x.kv i (k.kv[o - 1]'(by omega)), some ⟨h5, 0, none⟩, c5, some ⟨h6, 0, none⟩, c6, some ⟨h7, 0, none⟩, c7⟩ : Nd) (ps.take (i + 1) ++ g39 :: ps.drop (i + 1)).length :: ndK (⟨x.p, insL x.kv i (k.kv[o - 1]'(by omega)), some ⟨h5, 0, none⟩, c5, some ⟨h6, 0, none⟩, c6, some ⟨h7, 0, none⟩, c7⟩ : Nd) :: ndV (⟨x.p, insL x.kv i (k.kv[o - 1]'(by omega)), some ⟨h5, 0, none⟩, c5, some ⟨h6, 0, none⟩, c6, some ⟨h7, 0, none⟩, c7⟩ : Nd) :: ndC (⟨x.p, insL x.kv i (k.kv[o - 1]'(by omega)), some ⟨h5, 0, none⟩, c5, some ⟨h6, 0, none⟩, c6, some ⟨h7, 0, none⟩, c7⟩ : Nd) (ps.take (i + 1) ++ g39 :: ps.drop (i + 1)) :: F) rfl (by omega) (by omega) (by omega) (by first | exact .inr (by omega) | exact .inl hkl0) (Sub.any h H1); have H3 := Has.rgt (y := k) (ps := kps) (o := o) (z' := ⟨g39, k.kv.drop o, p1, c1, p2, c2, p3, c3⟩) (l := trB g o r cnt :: ndB (⟨k.p, k.kv.take (o - 1), k.ka, k.kc, k.va, k.vc, k.ca, k.cc⟩ : Nd) (kps.take o).length :: ndK (⟨k.p, k.kv.take (o - 1), k.ka, k.kc, k.va, k.vc, k.ca, k.cc⟩ : Nd) :: ndV (⟨k.p, k.kv.take (o - 1), k.ka, k.kc, k.va, k.vc, k.ca, k.cc⟩ : Nd) :: ndC (⟨k.p, k.kv.take (o - 1), k.ka, k.kc, k.va, k.vc, k.ca, k.cc⟩ : Nd) (kps.take o) :: ndB (⟨x.p, insL x.kv i (k.kv[o - 1]'(by omega)), some ⟨h5, 0, none⟩, c5, some ⟨h6, 0, none⟩, c6, some ⟨h7, 0, none⟩, c7⟩ : Nd) (ps.take (i + 1) ++ g39 :: ps.drop (i + 1)).length :: ndK (⟨x.p, insL x.kv i (k.kv[o - 1]'(by omega)), some ⟨h5, 0, none⟩, c5, some ⟨h6, 0, none⟩, c6, some ⟨h7, 0, none⟩, c7⟩ : Nd) :: ndV (⟨x.p, insL x.kv i (k.kv[o - 1]'(by omega)), some ⟨h5, 0, none⟩, c5, some ⟨h6, 0, none⟩, c6, some ⟨h7, 0, none⟩, c7⟩ : Nd) :: ndC (⟨x.p, insL x.kv i (k.kv[o - 1]'(by omega)), some ⟨h5, 0, none⟩, c5, some ⟨h6, 0, none⟩, c6, some ⟨h7, 0, none⟩, c7⟩ : Nd) (ps.take (i + 1) ++ g39 :: ps.drop (i + 1)) :: F) rfl rfl rfl (Sub.any h H2); simp only [nodeL, List.cons_append, List.nil_append]; exact Sub.any h H3⟩ | (subst hkl0; exact ⟨.inr rfl, _, _, res [] rfl trivial, ⟨⟨x.p, insL x.kv i (k.kv[o - 1]'(by omega)), some ⟨h5, 0, none⟩, c5, some ⟨h6, 0, none⟩, c6, some ⟨h7, 0, none⟩, c7⟩, ⟨k.p, k.kv.take (o - 1), k.ka, k.kc, k.va, k.vc, k.ca, k.cc⟩, ⟨g39, k.kv.drop o, p1, c1, p2, c2, none, 0⟩, rfl, rfl, rfl, rfl, rfl, rfl, rfl⟩, fun h H => by have H := Has.rowCast (xs' := (([] : List Nat).drop o).map pV) rfl rfl (by simp) (Has.rowNil (e := 95) (sz := 1) H); simp only [List.length_nil] at H; have H1 := Has.par (x := x) (m := k.kv[o - 1]'(by omega)) (p := g39) (ps := ps) (x' := ⟨x.p, insL x.kv i (k.kv[o - 1]'(by omega)), some ⟨h5, 0, none⟩, c5, some ⟨h6, 0, none⟩, c6, some ⟨h7, 0, none⟩, c7⟩) (qs := ps.take (i + 1) ++ g39 :: ps.drop (i + 1)) (l := blk k.p [.slice k.ka (o - 1) k.kc, .slice k.va (o - 1) k.vc, .slice k.ca 0 k.cc] 98 :: ndK k :: ndV k :: ndC k ([] : List Nat) :: blk g39 [.slice p1 (k.kv.length - o) c1, .slice p2 (k.kv.length - o) c2, .slice none 0 0] 98 :: row (.slice p1 (k.kv.length - o) c1) 9 1 (k.kv.length - o) ((k.kv.drop o).map fun q => kT q.1) :: row (.slice p2 (k.kv.length - o) c2) 2 1 (k.kv.length - o) ((k.kv.drop o).map fun q => iV q.2) :: row (.slice none 0 0) 95 1 0 ((([] : List Nat).drop o).map pV) :: trB g o r cnt :: F) rfl rfl hil (by omega) (Sub.any h H); have H2 := Has.lft (y := k) (ps := ([] : List Nat)) (j := o - 1) (y' := ⟨k.p, k.kv.take (o - 1), k.ka, k.kc, k.va, k.vc, k.ca, k.cc⟩) (z := 0) (l := blk g39 [.slice p1 (k.kv.length - o) c1, .slice p2 (k.kv.length - o) c2, .slice none 0 0] 98 :: row (.slice p1 (k.kv.length - o) c1) 9 1 (k.kv.length - o) ((k.kv.drop o).map fun q => kT q.1) :: row (.slice p2 (k.kv.length - o) c2) 2 1 (k.kv.length - o) ((k.kv.drop o).map fun q => iV q.2) :: row (.slice none 0 0) 95 1 0 ((([] : List Nat).drop o).map pV) :: trB g o r cnt :: ndB (⟨x.p, insL x.kv i (k.kv[o - 1]'(by omega)), some ⟨h5, 0, none⟩, c5, some ⟨h6, 0, none⟩, c6, some ⟨h7, 0, none⟩, c7⟩ : Nd) (ps.take (i + 1) ++ g39 :: ps.drop (i + 1)).length :: ndK (⟨x.p, insL x.kv i (k.kv[o - 1]'(by omega)), some ⟨h5, 0, none⟩, c5, some ⟨h6, 0, none⟩, c6, some ⟨h7, 0, none⟩, c7⟩ : Nd) :: ndV (⟨x.p, insL x.kv i (k.kv[o - 1]'(by omega)), some ⟨h5, 0, none⟩, c5, some ⟨h6, 0, none⟩, c6, some ⟨h7, 0, none⟩, c7⟩ : Nd) :: ndC (⟨x.p, insL x.kv i (k.kv[o - 1]'(by omega)), some ⟨h5, 0, none⟩, c5, some ⟨h6, 0, none⟩, c6, some ⟨h7, 0, none⟩, c7⟩ : Nd) (ps.take (i + 1) ++ g39 :: ps.drop (i + 1)) :: F) rfl (by omega) (by omega) (by omega) (by first | exact .inr (by omega) | exact .inl rfl) (Sub.any h H1); simp only [List.take_nil, List.length_nil] at H2; have H3 := Has.rgt (m := 0) (y := k) (ps := ([] : List Nat)) (o := o) (z' := ⟨g39, k.kv.drop o, p1, c1, p2, c2, none, 0⟩) (l := trB g o r cnt :: ndB (⟨k.p, k.kv.take (o - 1), k.ka, k.kc, k.va, k.vc, k.ca, k.cc⟩ : Nd) 0 :: ndK (⟨k.p, k.kv.take (o - 1), k.ka, k.kc, k.va, k.vc, k.ca, k.cc⟩ : Nd) :: ndV (⟨k.p, k.kv.take (o - 1), k.ka, k.kc, k.va, k.vc, k.ca, k.cc⟩ : Nd) :: ndC (⟨k.p, k.kv.take (o - 1), k.ka, k.kc, k.va, k.vc, k.ca, k.cc⟩ : Nd) ([] : List Nat) :: ndB (⟨x.p, insL x.kv i (k.kv[o - 1]'(by omega)), some ⟨h5, 0, none⟩, c5, some ⟨h6, 0, none⟩, c6, some ⟨h7, 0, none⟩, c7⟩ : Nd) (ps.take (i + 1) ++ g39 :: ps.drop (i + 1)).length :: ndK (⟨x.p, insL x.kv i (k.kv[o - 1]'(by omega)), some ⟨h5, 0, none⟩, c5, some ⟨h6, 0, none⟩, c6, some ⟨h7, 0, none⟩, c7⟩ : Nd) :: ndV (⟨x.p, insL x.kv i (k.kv[o - 1]'(by omega)), some ⟨h5, 0, none⟩, c5, some ⟨h6, 0, none⟩, c6, some ⟨h7, 0, none⟩, c7⟩ : Nd) :: ndC (⟨x.p, insL x.kv i (k.kv[o - 1]'(by omega)), some ⟨h5, 0, none⟩, c5, some ⟨h6, 0, none⟩, c6, some ⟨h7, 0, none⟩, c7⟩ : Nd) (ps.take (i + 1) ++ g39 :: ps.drop (i + 1)) :: F) rfl rfl (by simp) (Sub.any h H2); simp only [nodeL, List.take_nil, List.drop_nil, List.length_nil, List.map_nil, List.cons_append, List.nil_append] at H3 ⊢; exact Sub.any h H3⟩)
end Go.Proofs.Ytefognjcognknaa
