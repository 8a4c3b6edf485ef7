/- The package wal: what a log is in memory; seal, size, End, Durable, Left. Conditions: sizes; that what is handed in can be read. -/
import Derived.Test.YtjjhbpjbngdlnaaDoorJnA
import Derived.Test.YtjjhbpjbngdlnaaDoorDkZ
set_option linter.unusedSimpArgs false
set_option linter.unusedVariables false
namespace Go.Proofs.YtjjhbpjbngdlnaaDoor
open Go.RowKit

/-! what lies behind assertions that are not known -/
instance (priority := low) (g : Nat) (S l : List Assn) (C : List Value) [k : CellsAt g l C] : CellsAt g (S ++ l) C := ⟨fun _ H => by
  obtain ⟨_, _, _, _, a, _, e⟩ := Has.split H
  obtain ⟨X, t, fr, hx⟩ := k.find _ e
  exact ⟨X, t, fr, a.p _ _ hx⟩⟩
instance (priority := low) (v : Value) (S l r : List Assn) (e sz n : Nat) (xs : List Value) [k : TakeR v l e sz n xs r] : TakeR v (S ++ l) e sz n xs (S ++ r) := ⟨fun _ H => Has.over (Has.app_imp k.take H)⟩
instance (priority := low) (g : Nat) (S l r : List Assn) (C D : List Value) [k : StoreAt g l C D r] : StoreAt g (S ++ l) C D (S ++ r) := ⟨fun hd h H => by
  obtain ⟨h1, h2, d, a, b, e1, e2⟩ := Has.split H
  obtain ⟨X, t, m, k1, k2⟩ := k.cut hd h2 e2
  exact ⟨X, t, S ++ m, Has.over (Has.join d a b e1 k1), fun h' H' => Has.app_imp k2 (Has.under H')⟩⟩
/-- A log: where it lies, its text, the last record's sum, how much is durable. -/
structure Wl where
  first : Nat
  count : Nat
  st : List UInt8
  sum : UInt32
  dur : Nat
abbrev wlB (g b : Nat) (W : Wl) (p : Option Addr) (c : Nat) : Assn := blk g [.pointer (some ⟨b, 0, none⟩), .int .i64 W.first, .int .i64 W.count, .slice p W.st.length c, .int .u32 W.sum.toNat, .int .i64 W.dur] 115
/-- The log at block g, over the disk at block b. -/
def wlA (g b : Nat) (W : Wl) : Assn := fun h => ∃ p c, Has [wlB g b W p c, rB (.slice p W.st.length c) W.st.length W.st] h

section
variable {P : Program} {B : Base} {n : Nat} {l r F : List Assn} {f : Fr} {Φ : Post} {c : Code} {w : World}
theorem Own.openWl {g b : Nat} {W : Wl} (H : Own B w (wlA g b W :: l)) : ∃ p c, Own B w (wlB g b W p c :: rB (.slice p W.st.length c) W.st.length W.st :: l) := by
  obtain ⟨h, hd, hl, h1, h2, d, a1, a2, ⟨p, c, e⟩, H2⟩ := H.has
  exact ⟨p, c, H.os, H.tape, H.output, H.ro, h, hd, hl, Has.join d a1 a2 e H2⟩
theorem T.openWl (g b : Nat) (W : Wl) [k : TakeA (wlA g b W) l r] (h : ∀ p cc, (0 < W.st.length → ∃ g, p = some ⟨g, 0, none⟩) → W.st.length ≤ cc → T P B n c Φ f (wlB g b W p cc :: rB (.slice p W.st.length cc) W.st.length W.st :: r)) : T P B n c Φ f l := ⟨fun Q w hf ho => by
  obtain ⟨p, cc, e⟩ := (ho.take (k := k)).openWl
  exact (h p cc (e.tl.slice_at (p := p) (m := W.st.length) (c := cc)).2.1 (e.tl.cap_at (p := p) (m := W.st.length) (c := cc))).run Q w hf e⟩
theorem Sub.wl (g b : Nat) (W : Wl) (p : Option Addr) (cc : Nat) {m : List Assn} [k : TakeL [wlB g b W p cc, rB (.slice p W.st.length cc) W.st.length W.st] l r] [t : SubC (wlA g b W :: r) m] : Sub l m := fun h H => by
  obtain ⟨h1, h2, d, a1, a2, k1, k2⟩ := Has.split (k.take h H)
  exact t.sub h ⟨h1, h2, d, a1, a2, ⟨p, cc, k1⟩, k2⟩
end

theorem PartsV.blk3 {B : Base} {L : List Assn} {g : Nat} {v1 v2 v3 : Value} {b1 b2 b3 : List UInt8} (h1 : RdV B L v1 (bytesV b1)) (h2 : RdV B L v2 (bytesV b2)) (h3 : RdV B L v3 (bytesV b3)) [k : Rd B g L [v1, v2, v3]] : PartsV B L (.slice (some ⟨g, 0, none⟩) 3 3) [b1, b2, b3] := by
  refine ⟨[v1, v2, v3], ⟨_, 3, rfl, .inr ⟨g, 0, rfl, fun w ho => ho.range (g := g) (C := [v1, v2, v3]) (fun j u hj => by rw [Nat.zero_add]; exact hj)⟩⟩, rfl, fun i i1 i2 => ?_⟩
  match i, i1 with
  | 0, _ => exact h1
  | 1, _ => exact h2
  | 2, _ => exact h3
theorem wru64_u32 (x : UInt32) : IntKind.u64.wrap (x.toNat : Int) = (x.toUInt64.toNat : Int) := by
  rw [wru64 (by omega) (by have := x.toNat_lt; omega), UInt32.toNat_toUInt64]
/-- The sum of a record, by the one ahead of it. -/
def sealW (last : UInt32) (at_ : Int) (data : List UInt8) : UInt32 := crc (be last.toUInt64 4 ++ be (UInt64.ofInt at_) 8 ++ data)

set_option maxHeartbeats 1000000 in
set_option maxRecDepth 100000 in
theorem Wl.shut (B : Base) (S : List Assn) (last : UInt32) (at_ : Int) (a : Option Addr) (m c : Nat) (data : List UInt8) (hv : RdV B S (.slice a m c) (bytesV data)) (hm : data.length = m) (hl : m < 2 ^ 40) : Fn Tryd.prog B 59 #[.int .u32 last.toNat, .int .i64 at_, .slice a m c] S (fun u l => u = .int .u32 (sealW last at_ data).toNat ∧ l = S) := by
  refine Fn.enter3 16 Tryd.func59 rfl rfl (Nat.le_of_ble_eq_true rfl) (fun F => ?_)
  try simp only [List.cons_append, List.nil_append]
  refine T.seq ?_
  refine T.region ?_
  refine LW.q rfl (Qt.assign rfl) ?_
  refine LW.done ?_
  refine T.seq ?_
  refine T.region ?_
  refine LW.q rfl (Qt.move rfl) ?_
  refine LW.q rfl (Qt.convI (by kernel_rfl) (by kernel_rfl) rfl (wru64_u32 last)) ?_
  refine LW.e rfl (Ef.call (Cd.put B [] (.slice none 0 0) [] 0 rfl last.toUInt64 4 4 rfl (by omega) (RdV.nil [] 0) (by omega)) Tryd.func53 rfl rfl rfl ?_)
  rintro _ _ ⟨p1, c1, rfl, rfl⟩
  try simp only [List.cons_append, List.nil_append]
  simp only [Nat.zero_add, List.nil_append]
  refine LW.q rfl (Qt.move rfl) ?_
  refine LW.q rfl (Qt.convI (by kernel_rfl) (by kernel_rfl) rfl (wru64_i64 _)) ?_
  refine LW.e rfl (Ef.call (Cd.put B [] (.slice none 0 0) [] 0 rfl (UInt64.ofInt at_) 8 8 rfl (by omega) (RdV.nil [] 0) (by omega)) Tryd.func53 rfl rfl rfl ?_)
  rintro _ _ ⟨p2, c2, rfl, rfl⟩
  try simp only [List.cons_append, List.nil_append]
  simp only [Nat.zero_add, List.nil_append]
  refine LW.own (fun w ho => ?_)
  have hp1 := (ho.slice_at (p := p1) (m := 4) (c := c1)).2.1
  have hp2 := (ho.slice_at (p := p2) (m := 8) (c := c2)).2.1
  clear ho
  refine LW.q rfl (Qt.move rfl) ?_
  refine LW.e rfl (Ef.lit [_, _, _] (e := 22) (by kernel_rfl) (by kernel_rfl) rfl (by simp [Value.cells]) rfl (by omega) (by omega) ?_)
  intro g14
  refine LW.e rfl (Ef.callL (Cd.sum B _ _ [be last.toUInt64 4, be (UInt64.ofInt at_) 8, data] (PartsV.blk3 ((RdV.rB (length_be _ _) hp1).mono (fun w ho => ho.map Sub.any)) ((RdV.rB (length_be _ _) hp2).mono (fun w ho => ho.map Sub.any)) (hv.mono (fun w ho => ho.map Sub.any))) (by simp) (by intro b hb; simp at hb; rcases hb with rfl | rfl | rfl <;> simp [length_be]; omega)) Tryd.func50 rfl rfl rfl ?_)
  rintro _ _ ⟨rfl, rfl⟩
  try simp only [List.cons_append, List.nil_append]
  refine LW.q rfl (Qt.assign rfl) ?_
  refine LW.done ?_
  refine T.ret ?_
  exact ⟨.inl rfl, _, _, res [_] rfl ⟨rvT rfl, trivial⟩, ⟨by simp [sealW, outV], rfl⟩, Sub.any⟩

set_option maxRecDepth 100000 in
theorem Wl.size (B : Base) (v : Value) (first : Int) (count : Nat) (h : count ≤ 4096) : Fn Tryd.prog B 63 #[.agg #[v, .int .i64 first, .int .i64 count]] [] (fun u l => u = .int .i64 ((count : Int) * 256) ∧ l = []) := by
  refine Fn.enter1 6 Tryd.func63 rfl rfl (Nat.le_of_ble_eq_true rfl) (fun F => ?_)
  try simp only [List.cons_append, List.nil_append]
  refine T.seq ?_
  refine T.region ?_
  refine LW.e rfl (Ef.box [_, _, _] rfl rfl ?_)
  intro g1
  refine LW.q rfl (Qt.assign rfl) ?_
  refine LW.done ?_
  refine T.seq ?_
  refine T.region ?_
  refine LW.q rfl (Qt.fieldAddr (off := 2) (by kernel_rfl) rfl) ?_
  first | refine LW.q rfl (Qt.load (by kernel_rfl) rfl rfl) ?_ | refine LW.q rfl (Qt.load (by kernel_rfl) rfl (map_at _ _ _ (by omega))) ?_ | refine LW.q rfl (Qt.load (by kernel_rfl) rfl (flat_cell0 _ _ _ (by intros; rfl) _ (by omega) (by rfl))) ?_ | refine LW.q rfl (Qt.load (by kernel_rfl) rfl (flat_cell _ _ _ (by intros; rfl) _ _ (by omega) (by rfl))) ?_ | refine LW.q rfl (Qt.load (by kernel_rfl) rfl (bytes_at _ _ (by omega))) ?_
  refine LW.q rfl (Qt.mul rfl rfl (wr64 (by omega) (by omega))) ?_
  refine LW.q rfl (Qt.assign rfl) ?_
  refine LW.done ?_
  refine T.ret ?_
  exact ⟨.inl rfl, _, _, res [_] rfl ⟨rvT rfl, trivial⟩, ⟨rfl, rfl⟩, Sub.any⟩
set_option maxRecDepth 100000 in
theorem Wl.endOf (B : Base) (g b : Nat) (W : Wl) (h : W.st.length < 2 ^ 40) : Fn Tryd.prog B 39 #[.pointer (some ⟨g, 0, none⟩)] [wlA g b W] (fun u l => u = .int .i64 W.st.length ∧ l = [wlA g b W]) := by
  refine Fn.enter1 8 Tryd.func39 rfl rfl (Nat.le_of_ble_eq_true rfl) (fun F => ?_)
  try simp only [List.cons_append, List.nil_append]
  refine T.openWl g b W (fun p c hp hc => ?_)
  refine T.seq ?_
  refine T.region ?_
  refine LW.q rfl (Qt.assign rfl) ?_
  refine LW.done ?_
  refine T.seq ?_
  refine T.region ?_
  refine LW.q rfl (Qt.move rfl) ?_
  refine LW.q rfl (Qt.nilCheck rfl) ?_
  refine LW.q rfl (Qt.fieldAddr (off := 3) (by kernel_rfl) rfl) ?_
  first | refine LW.q rfl (Qt.load (by kernel_rfl) rfl rfl) ?_ | refine LW.q rfl (Qt.load (by kernel_rfl) rfl (map_at _ _ _ (by omega))) ?_ | refine LW.q rfl (Qt.load (by kernel_rfl) rfl (flat_cell0 _ _ _ (by intros; rfl) _ (by omega) (by rfl))) ?_ | refine LW.q rfl (Qt.load (by kernel_rfl) rfl (flat_cell _ _ _ (by intros; rfl) _ _ (by omega) (by rfl))) ?_ | refine LW.q rfl (Qt.load (by kernel_rfl) rfl (bytes_at _ _ (by omega))) ?_
  refine LW.q rfl (Qt.len (e := 5) (sz := 1) (by kernel_rfl) rfl) ?_
  refine LW.q rfl (Qt.assign rfl) ?_
  refine LW.done ?_
  refine T.ret ?_
  exact ⟨.inl rfl, _, _, res [_] rfl ⟨rvT rfl, trivial⟩, ⟨rfl, rfl⟩, Sub.wl g b W p c⟩
set_option maxRecDepth 100000 in
theorem Wl.durable (B : Base) (g b : Nat) (W : Wl) (h : W.dur < 2 ^ 40) : Fn Tryd.prog B 41 #[.pointer (some ⟨g, 0, none⟩)] [wlA g b W] (fun u l => u = .int .i64 W.dur ∧ l = [wlA g b W]) := by
  refine Fn.enter1 7 Tryd.func41 rfl rfl (Nat.le_of_ble_eq_true rfl) (fun F => ?_)
  try simp only [List.cons_append, List.nil_append]
  refine T.openWl g b W (fun p c hp hc => ?_)
  refine T.seq ?_
  refine T.region ?_
  refine LW.q rfl (Qt.assign rfl) ?_
  refine LW.done ?_
  refine T.seq ?_
  refine T.region ?_
  refine LW.q rfl (Qt.move rfl) ?_
  refine LW.q rfl (Qt.nilCheck rfl) ?_
  refine LW.q rfl (Qt.fieldAddr (off := 5) (by kernel_rfl) rfl) ?_
  first | refine LW.q rfl (Qt.load (by kernel_rfl) rfl rfl) ?_ | refine LW.q rfl (Qt.load (by kernel_rfl) rfl (map_at _ _ _ (by omega))) ?_ | refine LW.q rfl (Qt.load (by kernel_rfl) rfl (flat_cell0 _ _ _ (by intros; rfl) _ (by omega) (by rfl))) ?_ | refine LW.q rfl (Qt.load (by kernel_rfl) rfl (flat_cell _ _ _ (by intros; rfl) _ _ (by omega) (by rfl))) ?_ | refine LW.q rfl (Qt.load (by kernel_rfl) rfl (bytes_at _ _ (by omega))) ?_
  refine LW.q rfl (Qt.assign rfl) ?_
  refine LW.done ?_
  refine T.ret ?_
  exact ⟨.inl rfl, _, _, res [_] rfl ⟨rvT rfl, trivial⟩, ⟨rfl, rfl⟩, Sub.wl g b W p c⟩
set_option maxRecDepth 100000 in
theorem Wl.left (B : Base) (g b : Nat) (W : Wl) (h : W.st.length < 2 ^ 40) (hcnt : W.count ≤ 4096) : Fn Tryd.prog B 40 #[.pointer (some ⟨g, 0, none⟩)] [wlA g b W] (fun u l => u = .int .i64 ((W.count : Int) * 256 - W.st.length) ∧ l = [wlA g b W]) := by
  refine Fn.enter1 14 Tryd.func40 rfl rfl (Nat.le_of_ble_eq_true rfl) (fun F => ?_)
  try simp only [List.cons_append, List.nil_append]
  refine T.openWl g b W (fun p c hp hc => ?_)
  refine T.seq ?_
  refine T.region ?_
  refine LW.q rfl (Qt.assign rfl) ?_
  refine LW.done ?_
  refine T.seq ?_
  refine T.drawAll 11 (by kernel_rfl) (Nat.le_of_ble_eq_true rfl) (by kernel_rfl) ?_
  refine RW.q 0 rfl rfl (by kernel_rfl) (Sub.refl _) (Qt.move rfl) ?_
  refine RW.q 1 rfl rfl (by kernel_rfl) (Sub.refl _) (Qt.nilCheck rfl) ?_
  refine RW.q 2 rfl rfl (by kernel_rfl) (Sub.refl _) (Qt.fieldAddr0 (by kernel_rfl) rfl) ?_
  first | refine RW.q 3 rfl rfl (by kernel_rfl) (Sub.refl _) (Qt.loadAgg [_, _, _] (by kernel_rfl) rfl ⟨rfl, rfl, rfl, trivial⟩) ?_ | refine RW.q 3 rfl rfl (by kernel_rfl) (Sub.refl _) (Qt.loadAgg [_, _, _] (by kernel_rfl) rfl (by exact rdl_flat _ _ _ (by intros; rfl) _ (by omega))) ?_
  refine RW.q 5 rfl rfl (by kernel_rfl) (Sub.refl _) (Qt.move rfl) ?_
  refine RW.q 6 rfl rfl (by kernel_rfl) (Sub.refl _) (Qt.nilCheck rfl) ?_
  refine RW.q 7 rfl rfl (by kernel_rfl) (Sub.refl _) (Qt.fieldAddr (off := 3) (by kernel_rfl) rfl) ?_
  first | refine RW.q 8 rfl rfl (by kernel_rfl) (Sub.refl _) (Qt.load (by kernel_rfl) rfl rfl) ?_ | refine RW.q 8 rfl rfl (by kernel_rfl) (Sub.refl _) (Qt.load (by kernel_rfl) rfl (map_at _ _ _ (by omega))) ?_ | refine RW.q 8 rfl rfl (by kernel_rfl) (Sub.refl _) (Qt.load (by kernel_rfl) rfl (flat_cell0 _ _ _ (by intros; rfl) _ (by omega) (by rfl))) ?_ | refine RW.q 8 rfl rfl (by kernel_rfl) (Sub.refl _) (Qt.load (by kernel_rfl) rfl (flat_cell _ _ _ (by intros; rfl) _ _ (by omega) (by rfl))) ?_ | refine RW.q 8 rfl rfl (by kernel_rfl) (Sub.refl _) (Qt.load (by kernel_rfl) rfl (bytes_at _ _ (by omega))) ?_
  refine RW.q 9 rfl rfl (by kernel_rfl) (Sub.refl _) (Qt.len (e := 5) (sz := 1) (by kernel_rfl) rfl) ?_
  refine RW.one 4 (by kernel_rfl) ?_
  refine RO.e rfl rfl (Ef.call (Wl.size B (.pointer (some ⟨b, 0, none⟩)) W.first W.count hcnt) Tryd.func63 rfl rfl rfl ?_)
  rintro _ _ ⟨rfl, rfl⟩
  try simp only [List.cons_append, List.nil_append]
  refine ⟨Sub.any, ?_⟩
  refine RW.q 10 rfl rfl (by kernel_rfl) (Sub.refl _) (Qt.sub rfl rfl (wr64 (by omega) (by omega))) ?_
  refine RW.done (by rfl) ?_
  simp only [List.drop_succ_cons, List.drop_zero, List.drop_nil]
  refine LW.q rfl (Qt.assign rfl) ?_
  refine LW.done ?_
  refine T.ret ?_
  exact ⟨.inl rfl, _, _, res [_] rfl ⟨rvT rfl, trivial⟩, ⟨rfl, rfl⟩, Sub.wl g b W p c⟩
end Go.Proofs.YtjjhbpjbngdlnaaDoor
