/- The texts BtX BtY BuA, one behind the other: what the law leans on. Conditions: as each theorem says. -/
import Derived.Test.YtefognjcognknaaZRiBasf11
/- btree: walk. Conditions: sizes; that the keys rise. -/
set_option linter.unusedSimpArgs false
set_option linter.unusedVariables false
namespace Go.Proofs.Ytefognjcognknaa
open Go.RowKit
theorem Has.late {st m F : List Assn} {k : Piece} (K : Has (st ++ (m ++ F)) k) : Has (m ++ (st ++ F)) k := by
  obtain ⟨k1, k2, d, a, b, K1, K2⟩ := Has.split K
  obtain ⟨k3, k4, d2, a2, b2, K3, K4⟩ := Has.split K2
  have e1 := d.disj_le a2
  have e2 := d.disj_le b2
  exact Has.join (Piece.disj.disj_symm (Piece.add_disj e1 d2.disj_symm)) (a2.le_trans b) (Piece.add_le a (b2.le_trans b)) K3 (Has.join e2 (Piece.le_add_left _ _) (Piece.le_add_right e2) K1 K4)
instance (priority := 15) (st l m : List Assn) [k : SubC l m] : SubC (st ++ l) m := ⟨fun h H => by
  obtain ⟨_, _, _, _, b, _, K2⟩ := Has.split H
  exact (k.sub _ K2).mono b⟩
theorem walk_open {h : Nat} {x : Nd} {ks K1 K2 : List (LK h)} {q : LK h} {m : List Assn} {k : Piece} (hks : ks = K1 ++ q :: K2) (K : Has (openA h x ks ++ m) k) : Has (LK.a h q :: ndB x (ks.map fun q => (LK.nd h q).p).length :: ndK x :: ndV x :: ndC x (ks.map fun q => (LK.nd h q).p) :: sepL (K1.map (LK.a h)) :: sepL (K2.map (LK.a h)) :: m) k := by
  have K3 : Has (sepL (ks.map (LK.a h)) :: ndB x (ks.map fun q => (LK.nd h q).p).length :: ndK x :: ndV x :: ndC x (ks.map fun q => (LK.nd h q).p) :: m) k := Has.over (m := [ndB x (ks.map fun q => (LK.nd h q).p).length, ndK x, ndV x, ndC x (ks.map fun q => (LK.nd h q).p)]) K
  rw [hks] at K3 ⊢
  have K4 := Has.mid_out K3
  refine Has.cons_imp (fun _ K => ?_) K4
  exact Has.late (st := [sepL (K1.map (LK.a h)), sepL (K2.map (LK.a h))]) (m := [ndB x ((K1 ++ q :: K2).map fun q => (LK.nd h q).p).length, ndK x, ndV x, ndC x ((K1 ++ q :: K2).map fun q => (LK.nd h q).p)]) K
theorem walk_shut {h : Nat} {x : Nd} {ks K1 K2 : List (LK h)} {q : LK h} {st F : List Assn} {k : Piece} (hks : ks = K1 ++ q :: K2) (K : Has (LK.a h q :: (st ++ (ndB x (ks.map fun q => (LK.nd h q).p).length :: ndK x :: ndV x :: ndC x (ks.map fun q => (LK.nd h q).p) :: sepL (K1.map (LK.a h)) :: sepL (K2.map (LK.a h)) :: F))) k) : Has (openA h x ks ++ (st ++ F)) k := by
  have K1' := Has.late (st := LK.a h q :: st) (m := [ndB x (ks.map fun q => (LK.nd h q).p).length, ndK x, ndV x, ndC x (ks.map fun q => (LK.nd h q).p), sepL (K1.map (LK.a h)), sepL (K2.map (LK.a h))]) (F := F) K
  have K3 := Has.late (st := [ndB x (ks.map fun q => (LK.nd h q).p).length, ndK x, ndV x, ndC x (ks.map fun q => (LK.nd h q).p)]) (m := [sepL (K1.map (LK.a h)), sepL (K2.map (LK.a h)), LK.a h q]) (F := st ++ F) K1'
  have K4 := Has.late (st := [sepL (K1.map (LK.a h)), sepL (K2.map (LK.a h))]) (m := [LK.a h q]) K3
  have K5 := Has.mid_in K4
  rw [← hks] at K5
  exact Has.late (st := [sepL (ks.map (LK.a h))]) (m := [ndB x (ks.map fun q => (LK.nd h q).p).length, ndK x, ndV x, ndC x (ks.map fun q => (LK.nd h q).p)]) K5
theorem walk_back {h : Nat} {x : Nd} {ks : List (LK h)} {st F : List Assn} {k : Piece} (K : Has (st ++ (ndB x (ks.map fun q => (LK.nd h q).p).length :: ndK x :: ndV x :: ndC x (ks.map fun q => (LK.nd h q).p) :: sepL (ks.map (LK.a h)) :: F)) k) : Has (openA h x ks ++ (st ++ F)) k := Has.late (m := openA h x ks) K
theorem walk_end {h : Nat} {x : Nd} {ks : List (LK h)} {st F : List Assn} {k : Piece} (K : Has (openA h x ks ++ (st ++ F)) k) : Has (treeA h (LT.mk h x ks) :: st ++ F) k := Has.closeM K
section
variable {f t : Str} {R pre0 L P K S : List KV} {J Jx : List KV → List Assn} {st : List Assn} {p : KV}
theorem rgL_app (a b : List KV) : rgL f t (a ++ b) = rgL f t a ++ rgL f t b := List.filter_append ..
theorem wk_kid (hp : pre0 ++ rgL f t (P ++ (K ++ S)) <+: R) : (pre0 ++ rgL f t P) ++ rgL f t K <+: R := by
  refine List.IsPrefix.trans ⟨rgL f t S, ?_⟩ hp
  rw [rgL_app, rgL_app]; simp
theorem wk_false (e : L = P ++ (K ++ S)) (hu : Up L) (h : (false = true ∧ ¬ hit f t K ∧ st = J ((pre0 ++ rgL f t P) ++ rgL f t K)) ∨ (false = false ∧ hit f t K ∧ st = J ((pre0 ++ rgL f t P) ++ rgL f t K)) ∨ (false = false ∧ ∃ xs, xs <+: R ∧ xs ≠ [] ∧ st = Jx xs)) :
    (false = true ∧ ¬ hit f t L ∧ st = J (pre0 ++ rgL f t L)) ∨ (false = false ∧ hit f t L ∧ st = J (pre0 ++ rgL f t L)) ∨ (false = false ∧ ∃ xs, xs <+: R ∧ xs ≠ [] ∧ st = Jx xs) := by
  rcases h with h | h | h
  · cases h.1
  · obtain ⟨e1, e2⟩ := rgL_all (f := f) (t := t) (a := P ++ K) (b := S) (by rw [e]; simp) hu (hit_app.2 (.inr h.2.1))
    exact .inr (.inl ⟨rfl, e2, by rw [h.2.2, e1, rgL_app, List.append_assoc]⟩)
  · exact .inr (.inr h)
theorem wk_to (e : L = P ++ p :: S) (hu : Up L) (hf : sl p.1 f = false) (ht : t ≠ []) (hg : sl p.1 t = false) : hit f t L ∧ pre0 ++ rgL f t L = pre0 ++ rgL f t P := by
  obtain ⟨e1, e2⟩ := rgL_all (f := f) (t := t) (a := P ++ [p]) (b := S) (by rw [e]; simp) hu (hit_app.2 (.inr ⟨p, by simp, hf, ht, hg⟩))
  refine ⟨e2, ?_⟩
  rw [e1, rgL_app]
  have : rgL f t [p] = [] := by simp [rgL, inR, hg, ht]
  rw [this, List.append_nil]
theorem rgL_in (h : inR f t p = true) : rgL f t [p] = [p] := by simp [rgL, h]
theorem wk_y (e : L = P ++ p :: S) (h : inR f t p = true) (hp : pre0 ++ rgL f t L <+: R) : (pre0 ++ rgL f t P) ++ [p] <+: R := by
  refine List.IsPrefix.trans ⟨rgL f t S, ?_⟩ hp
  have : L = P ++ ([p] ++ S) := by rw [e]; simp
  rw [this, rgL_app, rgL_app, rgL_in h]; simp
theorem wk_nh (h : ¬ hit f t (P ++ K)) (hi : inR f t p = true) : ¬ hit f t (P ++ (K ++ [p])) := by
  rw [← List.append_assoc, hit_app]
  rintro (e | ⟨q, hq, h1, h2, h3⟩)
  · exact h e
  · rw [List.mem_singleton.1 hq] at h1 h3
    simp [inR, h1, h2, h3] at hi
theorem wk_J (hi : inR f t p = true) : pre0 ++ rgL f t (P ++ (K ++ [p])) = (pre0 ++ rgL f t (P ++ K)) ++ [p] := by
  rw [← List.append_assoc, rgL_app, rgL_in hi, List.append_assoc]
end
set_option maxHeartbeats 4000000 in
set_option maxRecDepth 100000 in
theorem Bt.walk0 (B : Base) (o h : Nat) (r : Bool) (x : Nd) (ks : List (LK h)) (f t : Str) (lp : Nat) (J Jx : List KV → List Assn) (R pre0 : List KV) (ho : 2 ≤ o) (ho2 : o ≤ 64) (hok : okT o h r (LT.mk h x ks)) (hu : Up (toL h (LT.mk h x ks))) (hp : pre0 ++ rgL f t (toL h (LT.mk h x ks)) <+: R)
  (hY : ∀ pre y, (pre ++ [y]) <+: R → FnY Try.prog B lp [kT y.1, iV y.2] (J pre) (fun v l => (v = .bool true ∧ l = J (pre ++ [y])) ∨ (v = .bool false ∧ l = Jx (pre ++ [y]))))
  (IH : ∀ k : LK h, LK.ok o h k → Up (LK.l h k) → ∀ pre, pre ++ rgL f t (LK.l h k) <+: R → Fn Try.prog B 51 #[pV (LK.nd h k).p, kT f, kT t, .func (.yield lp) #[] #[]] (LK.a h k :: J pre) (walkP f t R J Jx (LK.l h k) pre (LK.a h k))) :
  Fn Try.prog B 51 #[pV x.p, kT f, kT t, .func (.yield lp) #[] #[]] (treeA h (LT.mk h x ks) :: J pre0) (walkP f t R J Jx (toL h (LT.mk h x ks)) pre0 (treeA h (LT.mk h x ks))) := by
 have hkm : x.kv.length ≤ 2 * o - 1 ∧ (h = 0 ∨ ks.length = x.kv.length + 1) ∧ ∀ k ∈ ks, LK.ok o h k := by
  cases r with
  | false => have a := okN_mk.1 (okN_false.1 hok); exact ⟨a.1, a.2.2.1, a.2.2.2⟩
  | true => have a := okN_mk.1 (okN_true.1 hok); exact ⟨a.1, a.2.2.1, a.2.2.2⟩
 have hkv := up_kv hkm.2.1 hu
 have hsl : spot x.ks f ≤ x.kv.length := by have := spot_le x.ks f; simpa using this
 obtain ⟨L, hL⟩ : ∃ L, toL h (LT.mk h x ks) = L := ⟨_, rfl⟩
 have hcut : ∀ i, i ≤ x.kv.length → L = preK h ks x.kv i ++ (kidL h ks i ++ sufK h ks x.kv i) := fun i hi => by rw [← hL, toL_mk]; exact toL_cut hkm.2.1 hi
 have hlt := preK_lt (f := f) hkm.2.1 hu
 rw [hL] at hu hp ⊢
 refine Fn.enterM4 83 Try.func51 rfl rfl (Nat.le_of_ble_eq_true rfl) (fun F => ?_)
 try simp only [List.cons_append, List.nil_append]
 refine TI.conv (l' := openA h x ks ++ (J (pre0 ++ rgL f t (preK h ks x.kv (spot x.ks f))) ++ F)) (fun w ho => ho.map fun k K => by rw [rgL_lt hlt, List.append_nil]; exact Has.openM K) ?_
 simp only [openA, List.cons_append, List.nil_append]
 refine TI.own fun w0 ho0 => ?_
 have hpk := (ho0.slice_at (p := x.ka) (m := x.kv.length) (c := x.kc) (k := x.kv.length)).2.1
 have hpv := (ho0.slice_at (p := x.va) (m := x.kv.length) (c := x.vc) (k := x.kv.length)).2.1
 have hpc := (ho0.slice_at (p := x.ca) (m := (ks.map fun q => (LK.nd h q).p).length) (c := x.cc) (k := (ks.map fun q => (LK.nd h q).p).length)).2.1
 clear ho0
 refine TI.seq ?_
 refine TI.region (by rfl) ?_
 refine LW.q rfl (Qt.assign rfl) ?_
 refine LW.done ?_
 refine TI.seq ?_
 refine TI.region (by rfl) ?_
 refine LW.q rfl (Qt.move rfl) ?_
 refine LW.q rfl (Qt.move rfl) ?_
 refine LW.e rfl (Ef.call (Bt.find B x (ks.map fun q => (LK.nd h q).p).length f hkv.rise (by omega)) Try.func44 rfl rfl rfl ?_)
 rintro _ _ ⟨rfl, rfl⟩
 try simp only [List.cons_append, List.nil_append]
 refine LW.q rfl (Qt.move rfl) ?_
 refine LW.q rfl (Qt.extr rfl rfl) ?_
 refine LW.q rfl (Qt.extr rfl rfl) ?_
 refine LW.q rfl (Qt.assign rfl) ?_
 refine LW.q rfl (Qt.assign rfl) ?_
 refine LW.done ?_
 refine TI.seq ?_
 refine TI.block ?_
 refine TI.loop (fun mz fz lz => ∃ (f0 : Fr) (i : Nat), (i ≤ x.kv.length ∧ spot x.ks f ≤ i ∧ ¬ hit f t (preK h ks x.kv i)) ∧ mz = x.kv.length + 1 - i ∧ fz = (upd (upd (upd (upd (upd f0 0 (pV x.p)) 1 (kT f)) 2 (kT t)) 3 (.func (.yield lp) #[] #[])) 9 (.int .i64 i)) ∧ lz = openA h x ks ++ (J (pre0 ++ rgL f t (preK h ks x.kv i)) ++ F)) ?_ ?_
 · refine ⟨_, _, ⟨_, spot x.ks f, ⟨hsl, Nat.le_refl _, hit_lt hlt⟩, rfl, (updS rfl (updS rfl (updS rfl (updS rfl (updS rfl rfl))))), rfl⟩, Sub.any⟩
 ·
  rintro mz fz lz ⟨f0, i, ⟨hi, hsi, hnh⟩, hmz, rfl, rfl⟩
  subst mz
  try simp only [List.cons_append, List.nil_append]
  refine TI.seq ?_
  refine TI.seq ?_
  refine TI.region (by rfl) ?_
  refine LW.q rfl (Qt.move rfl) ?_
  refine LW.q rfl (Qt.move rfl) ?_
  refine LW.q rfl (Qt.nilCheck rfl) ?_
  refine LW.q rfl (Qt.fieldAddr0 (by kernel_rfl) rfl) ?_
  first | refine LW.q rfl (Qt.load (by kernel_rfl) rfl rfl) ?_ | refine LW.q rfl (Qt.load (by kernel_rfl) rfl (map_at _ _ _ (by omega))) ?_ | refine LW.q rfl (Qt.load (by kernel_rfl) rfl (flat_cell0 _ _ _ (by intros; rfl) _ (by omega) (by rfl))) ?_ | refine LW.q rfl (Qt.load (by kernel_rfl) rfl (flat_cell _ _ _ (by intros; rfl) _ _ (by omega) (by rfl))) ?_ | refine LW.q rfl (Qt.load (by kernel_rfl) rfl (bytes_at _ _ (by omega))) ?_
  refine LW.q rfl (Qt.len (e := 9) (sz := 1) (by kernel_rfl) rfl) ?_
  refine LW.q rfl (Qt.leq rfl rfl) ?_
  refine LW.done ?_
  first | refine TI.condT rfl ?_ | refine TI.condPT rfl ((by omega)) ?_ | refine TI.condBT rfl ((by omega)) ?_
  refine TI.skip ?_
  refine TI.seq ?_
  refine TI.block ?_
  refine TI.cut (fun fz lz => ∃ (f0 : Fr) (n : Nat), (¬ hit f t (preK h ks x.kv i ++ kidL h ks i)) ∧ fz = (upd (upd (upd (upd (upd f0 0 (pV x.p)) 1 (kT f)) 2 (kT t)) 3 (.func (.yield lp) #[] #[])) 9 (.int .i64 i)) ∧ lz = openA h x ks ++ (J (pre0 ++ rgL f t (preK h ks x.kv i ++ kidL h ks i)) ++ F)) ?_ ?_
  ·
   refine TI.seq ?_
   refine TI.region (by rfl) ?_
   refine LW.q rfl (Qt.move rfl) ?_
   refine LW.e rfl (Ef.call (Bt.leaf B x (ks.map fun q => (LK.nd h q).p).length) Try.func45 rfl rfl rfl ?_)
   rintro _ _ ⟨rfl, rfl⟩
   try simp only [List.cons_append, List.nil_append]
   first | refine LW.q rfl (Qt.notP rfl) ?_ | refine LW.q rfl (Qt.notB rfl) ?_
   refine LW.q rfl (Qt.move rfl) ?_
   refine LW.split (t := 29) rfl (fun hnl => ?_) (fun hnl => ?_)
   ·
    try replace hnl := of_decide_eq_true hnl
    have hkl := hkm.2.1.resolve_left (fun e => by subst e; cases ks with | nil => simp at hnl | cons e _ => exact e.elim)
    obtain ⟨K1, q, K2, hks, hK1⟩ : ∃ K1 q K2, ks = K1 ++ q :: K2 ∧ K1.length = i := ⟨ks.take i, ks[i]'(by omega), ks.drop (i + 1), by rw [List.getElem_cons_drop, List.take_append_drop], by simp; omega⟩
    have hkq : kidL h ks i = LK.l h q := kidL_at (by rw [hks, ← hK1]; simp)
    obtain ⟨b0, o0, hca, hc0⟩ := (RdV.cs (B := B) hpc).at (by rw [List.length_map]; omega)
    refine LW.conv (fun w ho => ho.map fun k K => walk_open (m := J (pre0 ++ rgL f t (preK h ks x.kv i)) ++ F) hks K) ?_
    refine LW.q rfl (Qt.move rfl) ?_
    refine LW.q rfl (Qt.nilCheck rfl) ?_
    refine LW.q rfl (Qt.fieldAddr (off := 2) (by kernel_rfl) rfl) ?_
    refine LW.q rfl (Qt.load (v := .slice (some ⟨b0, o0, none⟩) (ks.map fun q => (LK.nd h q).p).length x.cc) (by kernel_rfl) rfl (by rw [← hca]; rfl)) ?_
    refine LW.q rfl (Qt.move rfl) ?_
    refine LW.q rfl (Qt.index i (e := 95) (sz := 1) (by kernel_rfl) rfl rfl rfl (by rw [List.length_map]; omega)) ?_
    refine LW.q rfl (Qt.loadW (v := pV (LK.nd h q).p) (by kernel_rfl) rfl (fun w ho => by have := hc0 i (by simp; omega) w (ho.map Sub.any); rw [List.getElem_map, List.getElem_map] at this; subst hK1; simp only [hks] at this; simpa using this)) ?_
    refine LW.q rfl (Qt.move rfl) ?_
    refine LW.q rfl (Qt.move rfl) ?_
    refine LW.q rfl (Qt.move rfl) ?_
    refine LW.e rfl (Ef.call (IH q (hkm.2.2 q (by rw [hks]; simp)) (by have := hcut i hi; rw [this] at hu; rw [hkq] at hu; exact up_mid hu) (pre0 ++ rgL f t (preK h ks x.kv i)) (by rw [hcut i hi, hkq] at hp; exact wk_kid hp)) Try.func51 rfl rfl rfl ?_)
    rintro _ _ ⟨b, st, rfl, rfl, hres⟩
    try simp only [List.cons_append, List.nil_append]
    first | refine LW.q rfl (Qt.notP rfl) ?_ | refine LW.q rfl (Qt.notB rfl) ?_
    refine LW.q rfl (Qt.pick rfl rfl) ?_
    refine LW.done ?_
    refine TI.cond rfl (fun hb => ?_) (fun hb => ?_)
    ·
     obtain rfl : b = false := by simpa using hb
     refine TI.seq ?_
     refine TI.region (by rfl) ?_
     refine LW.q rfl (Qt.assign rfl) ?_
     refine LW.done ?_
     refine TI.ret ?_
     first | exact ⟨.inl rfl, _, .nil, _, _, res [_] rfl ⟨rvT rfl, trivial⟩, ⟨false, st, rfl, rfl, (by have h9 := hcut i hi; rw [hkq] at h9; exact wk_false h9 hu hres)⟩, (fun k K => walk_end (walk_shut hks K))⟩ | exact ⟨.inl rfl, _, Marks.one, _, _, res [_] rfl ⟨rvT rfl, trivial⟩, ⟨false, st, rfl, rfl, (by have h9 := hcut i hi; rw [hkq] at h9; exact wk_false h9 hu hres)⟩, (fun k K => walk_end (walk_shut hks K))⟩
    ·
     obtain rfl : b = true := by simpa using hb
     obtain ⟨hnk, rfl⟩ : ¬ hit f t (LK.l h q) ∧ st = J ((pre0 ++ rgL f t (preK h ks x.kv i)) ++ rgL f t (LK.l h q)) := by rcases hres with h | h | h; exact h.2; cases h.1; cases h.1
     refine TI.skip ?_
     exact ⟨rfl, _, ⟨_, 0, by rw [hkq, hit_app]; exact fun e => e.elim hnh hnk, (updS rfl (updS rfl (updS rfl (updS rfl (updS rfl rfl))))), rfl⟩, fun k K => by rw [hkq, rgL_app, ← List.append_assoc]; exact walk_shut hks K⟩
   ·
    try replace hnl := of_decide_eq_false hnl
    obtain rfl : h = 0 := by rcases hkm.2.1 with e | e; exact e; simp at hnl; rw [hnl] at e; simp at e
    refine LW.s rfl ?_
    refine LW.s rfl ?_
    refine LW.s rfl ?_
    refine LW.s rfl ?_
    refine LW.s rfl ?_
    refine LW.s rfl ?_
    refine LW.s rfl ?_
    refine LW.s rfl ?_
    refine LW.s rfl ?_
    refine LW.s rfl ?_
    refine LW.s rfl ?_
    refine LW.s rfl ?_
    refine LW.q rfl (Qt.pick rfl rfl) ?_
    refine LW.done ?_
    first | refine TI.condF rfl ?_ | refine TI.condPF rfl (by omega) ?_ | refine TI.condBF rfl (by omega) ?_
    refine TI.skip ?_
    exact ⟨rfl, _, ⟨_, 0, by rw [kidL_zero, List.append_nil]; exact hnh, (updS rfl (updS rfl (updS rfl (updS rfl (updS rfl rfl))))), rfl⟩, fun k K => by rw [kidL_zero, List.append_nil]; exact K⟩
  rintro fz lz ⟨f0, n, hnh2, rfl, rfl⟩
  try simp only [List.cons_append, List.nil_append]
  refine TI.seq ?_
  refine TI.seq ?_
  refine TI.region (by rfl) ?_
  refine LW.q rfl (Qt.move rfl) ?_
  refine LW.q rfl (Qt.move rfl) ?_
  refine LW.q rfl (Qt.nilCheck rfl) ?_
  refine LW.q rfl (Qt.fieldAddr0 (by kernel_rfl) rfl) ?_
  first | refine LW.q rfl (Qt.load (by kernel_rfl) rfl rfl) ?_ | refine LW.q rfl (Qt.load (by kernel_rfl) rfl (map_at _ _ _ (by omega))) ?_ | refine LW.q rfl (Qt.load (by kernel_rfl) rfl (flat_cell0 _ _ _ (by intros; rfl) _ (by omega) (by rfl))) ?_ | refine LW.q rfl (Qt.load (by kernel_rfl) rfl (flat_cell _ _ _ (by intros; rfl) _ _ (by omega) (by rfl))) ?_ | refine LW.q rfl (Qt.load (by kernel_rfl) rfl (bytes_at _ _ (by omega))) ?_
  refine LW.q rfl (Qt.len (e := 9) (sz := 1) (by kernel_rfl) rfl) ?_
  refine LW.q rfl (Qt.eql rfl rfl) ?_
  refine LW.done ?_
  refine TI.condP rfl (fun hend => ?_) (fun hend => ?_)
  ·
   obtain rfl : i = x.kv.length := by omega
   have hLe : L = preK h ks x.kv x.kv.length ++ kidL h ks x.kv.length := by have := hcut _ (Nat.le_refl _); rw [sufK_end, List.append_nil] at this; exact this
   refine TI.exit ?_
   refine TI.seq ?_
   refine TI.region (by rfl) ?_
   refine LW.q rfl (Qt.assign rfl) ?_
   refine LW.done ?_
   refine TI.ret ?_
   first | exact ⟨.inl rfl, _, .nil, _, _, res [_] rfl ⟨rvT rfl, trivial⟩, ⟨true, _, rfl, rfl, .inl ⟨rfl, by rw [hLe]; exact hnh2, by rw [hLe]⟩⟩, (fun k K => walk_end K)⟩ | exact ⟨.inl rfl, _, Marks.one, _, _, res [_] rfl ⟨rvT rfl, trivial⟩, ⟨true, _, rfl, rfl, .inl ⟨rfl, by rw [hLe]; exact hnh2, by rw [hLe]⟩⟩, (fun k K => walk_end K)⟩
  ·
   have hil : i < x.kv.length := by omega
   obtain ⟨p, hpi⟩ : ∃ p, x.kv[i]? = some p := ⟨_, List.getElem?_eq_getElem hil⟩
   have hpe := (List.getElem?_eq_some_iff.1 hpi).2
   have hfp := inR_at hpi hsi hkv
   obtain ⟨S, hS⟩ := sufK_at (ks := ks) hkm.2.1 hpi
   have hLp : L = (preK h ks x.kv i ++ kidL h ks i) ++ p :: S := by rw [hcut i hi, hS]; simp
   obtain ⟨b1, o1, hka, hc1⟩ := (RdV.ks (B := B) hpk).at (by omega)
   obtain ⟨b2, o2, hva, hc2⟩ := (RdV.vs (B := B) hpv).at (by omega)
   refine TI.skip ?_
   refine TI.seq ?_
   refine TI.drawY 33 ([ndB x (ks.map fun q => (LK.nd h q).p).length, ndK x, ndV x]) (by kernel_rfl) (Nat.le_of_ble_eq_true rfl) (by kernel_rfl) (by rfl) ?_
   refine RY.q 0 rfl rfl (by kernel_rfl) Sub.any (Qt.move rfl) ?_
   refine RY.q 1 rfl rfl (by kernel_rfl) Sub.any (Qt.neqS rfl rfl) ?_
   refine RY.q 2 rfl rfl (by kernel_rfl) Sub.any (Qt.move rfl) ?_
   refine RY.split (t := 52) rfl (fun hto => ?_) (fun hto => ?_)
   ·
    try replace hto := of_decide_eq_true hto
    refine RY.q 3 rfl rfl (by kernel_rfl) Sub.any (Qt.move rfl) ?_
    refine RY.q 4 rfl rfl (by kernel_rfl) Sub.any (Qt.nilCheck rfl) ?_
    refine RY.q 5 rfl rfl (by kernel_rfl) Sub.any (Qt.fieldAddr0 (by kernel_rfl) rfl) ?_
    refine RY.q 6 rfl rfl (by kernel_rfl) Sub.any (Qt.load (v := .slice (some ⟨b1, o1, none⟩) x.kv.length x.kc) (by kernel_rfl) rfl (by rw [← hka]; rfl)) ?_
    refine RY.q 7 rfl rfl (by kernel_rfl) Sub.any (Qt.move rfl) ?_
    refine RY.q 8 rfl rfl (by kernel_rfl) Sub.any (Qt.index i (e := 9) (sz := 1) (by kernel_rfl) rfl rfl rfl hil) ?_
    refine RY.q 9 rfl rfl (by kernel_rfl) Sub.any (Qt.loadW (v := kT p.1) (by kernel_rfl) rfl (fun w ho => by have := hc1 i (by simp; omega) w (ho.map Sub.any); simpa [hpe] using this)) ?_
    refine RY.q 10 rfl rfl (by kernel_rfl) Sub.any (Qt.move rfl) ?_
    refine RY.one 11 (by kernel_rfl) ?_
    refine RJ.eS rfl rfl (Ef.call (Bs.cmp B p.1 t) Try.func82 rfl rfl rfl ?_)
    rintro _ _ ⟨rfl, rfl⟩
    try simp only [List.cons_append, List.nil_append]
    refine ⟨Sub.any, ?_⟩
    refine RY.q 12 rfl rfl (by kernel_rfl) Sub.any (Qt.geq rfl rfl) ?_
    refine RY.q 13 rfl rfl (by kernel_rfl) Sub.any (Qt.pick rfl rfl) ?_
    refine RY.q 14 rfl rfl (by kernel_rfl) Sub.any (Qt.move rfl) ?_
    refine RY.split (t := 64) rfl (fun hge => ?_) (fun hge => ?_)
    ·
     try replace hge := of_decide_eq_true hge
     refine RY.s 15 rfl rfl (by kernel_rfl) Sub.any ?_
     refine RY.s 16 rfl rfl (by kernel_rfl) Sub.any ?_
     refine RY.s 17 rfl rfl (by kernel_rfl) Sub.any ?_
     refine RY.s 18 rfl rfl (by kernel_rfl) Sub.any ?_
     refine RY.s 19 rfl rfl (by kernel_rfl) Sub.any ?_
     refine RY.s 20 rfl rfl (by kernel_rfl) Sub.any ?_
     refine RY.s 21 rfl rfl (by kernel_rfl) Sub.any ?_
     refine RY.s 22 rfl rfl (by kernel_rfl) Sub.any ?_
     refine RY.s 23 rfl rfl (by kernel_rfl) Sub.any ?_
     refine RY.s 24 rfl rfl (by kernel_rfl) Sub.any ?_
     refine RY.s 25 rfl rfl (by kernel_rfl) Sub.any ?_
     refine RY.s 26 rfl rfl (by kernel_rfl) Sub.any ?_
     refine RY.s 27 rfl rfl (by kernel_rfl) Sub.any ?_
     refine RY.s 28 rfl rfl (by kernel_rfl) Sub.any ?_
     refine RY.s 29 rfl rfl (by kernel_rfl) Sub.any ?_
     refine RY.s 30 rfl rfl (by kernel_rfl) Sub.any ?_
     refine RY.s 31 rfl rfl (by kernel_rfl) Sub.any ?_
     refine RY.q 32 rfl rfl (by kernel_rfl) Sub.any (Qt.pick rfl rfl) ?_
     refine RY.done (by rfl) ?_
     simp only [List.drop_succ_cons, List.drop_zero, List.drop_nil]
     refine LI.done ?_
     first | refine TI.condT rfl ?_ | refine TI.condPT rfl (by omega) ?_ | refine TI.condBT rfl (by omega) ?_
     refine TI.seq ?_
     refine TI.region (by rfl) ?_
     refine LW.q rfl (Qt.assign rfl) ?_
     refine LW.done ?_
     refine TI.ret ?_
     first | exact ⟨.inl rfl, _, .nil, _, _, res [_] rfl ⟨rvT rfl, trivial⟩, ⟨false, _, rfl, rfl, .inr (.inl ⟨rfl, (wk_to (pre0 := pre0) hLp hu hfp hto ((cmp_sl _ _).1 hge)).1, by rw [(wk_to (pre0 := pre0) hLp hu hfp hto ((cmp_sl _ _).1 hge)).2]⟩)⟩, (fun k K => walk_end K)⟩ | exact ⟨.inl rfl, _, Marks.one, _, _, res [_] rfl ⟨rvT rfl, trivial⟩, ⟨false, _, rfl, rfl, .inr (.inl ⟨rfl, (wk_to (pre0 := pre0) hLp hu hfp hto ((cmp_sl _ _).1 hge)).1, by rw [(wk_to (pre0 := pre0) hLp hu hfp hto ((cmp_sl _ _).1 hge)).2]⟩)⟩, (fun k K => walk_end K)⟩
    ·
     try replace hge := of_decide_eq_false hge
     have hin : inR f t p = true := by have h9 : sl p.1 t = true := (by cases h : sl p.1 t with | true => rfl | false => exact absurd ((cmp_sl _ _).2 h) hge); simp [inR, hfp, h9]
     refine RY.q 15 rfl rfl (by kernel_rfl) Sub.any (Qt.move rfl) ?_
     refine RY.q 16 rfl rfl (by kernel_rfl) Sub.any (Qt.move rfl) ?_
     refine RY.q 17 rfl rfl (by kernel_rfl) Sub.any (Qt.nilCheck rfl) ?_
     refine RY.q 18 rfl rfl (by kernel_rfl) Sub.any (Qt.fieldAddr0 (by kernel_rfl) rfl) ?_
     refine RY.q 19 rfl rfl (by kernel_rfl) Sub.any (Qt.load (v := .slice (some ⟨b1, o1, none⟩) x.kv.length x.kc) (by kernel_rfl) rfl (by rw [← hka]; rfl)) ?_
     refine RY.q 20 rfl rfl (by kernel_rfl) Sub.any (Qt.move rfl) ?_
     refine RY.q 21 rfl rfl (by kernel_rfl) Sub.any (Qt.index i (e := 9) (sz := 1) (by kernel_rfl) rfl rfl rfl hil) ?_
     refine RY.q 22 rfl rfl (by kernel_rfl) Sub.any (Qt.loadW (v := kT p.1) (by kernel_rfl) rfl (fun w ho => by have := hc1 i (by simp; omega) w (ho.map Sub.any); simpa [hpe] using this)) ?_
     refine RY.q 23 rfl rfl (by kernel_rfl) Sub.any (Qt.move rfl) ?_
     refine RY.q 24 rfl rfl (by kernel_rfl) Sub.any (Qt.nilCheck rfl) ?_
     refine RY.q 25 rfl rfl (by kernel_rfl) Sub.any (Qt.fieldAddr (off := 1) (by kernel_rfl) rfl) ?_
     refine RY.q 26 rfl rfl (by kernel_rfl) Sub.any (Qt.load (v := .slice (some ⟨b2, o2, none⟩) x.kv.length x.vc) (by kernel_rfl) rfl (by rw [← hva]; rfl)) ?_
     refine RY.q 27 rfl rfl (by kernel_rfl) Sub.any (Qt.move rfl) ?_
     refine RY.q 28 rfl rfl (by kernel_rfl) Sub.any (Qt.index i (e := 2) (sz := 1) (by kernel_rfl) rfl rfl rfl hil) ?_
     refine RY.q 29 rfl rfl (by kernel_rfl) Sub.any (Qt.loadW (v := iV p.2) (by kernel_rfl) rfl (fun w ho => by have := hc2 i (by simp; omega) w (ho.map Sub.any); simpa [hpe] using this)) ?_
     refine RY.one 30 (by kernel_rfl) ?_
     refine RJ.yS rfl rfl (Ey.yield [kT p.1, iV p.2] (hY (pre0 ++ rgL f t (preK h ks x.kv i ++ kidL h ks i)) p (wk_y hLp hin hp)) rfl rfl ?_)
     rintro _ _ (⟨rfl, rfl⟩ | ⟨rfl, rfl⟩)
     ·
      try simp only [List.cons_append, List.nil_append]
      refine ⟨Sub.any, ?_⟩
      first | refine RY.q 31 rfl rfl (by kernel_rfl) Sub.any (Qt.notP rfl) ?_ | refine RY.q 31 rfl rfl (by kernel_rfl) Sub.any (Qt.notB rfl) ?_
      refine RY.q 32 rfl rfl (by kernel_rfl) Sub.any (Qt.pick rfl rfl) ?_
      refine RY.done (by rfl) ?_
      simp only [List.drop_succ_cons, List.drop_zero, List.drop_nil]
      refine LI.done ?_
      first | refine TI.condF rfl ?_ | refine TI.condPF rfl (by omega) ?_ | refine TI.condBF rfl (by omega) ?_
      refine TI.skip ?_
      refine TI.region (by rfl) ?_
      refine LW.q rfl (Qt.move rfl) ?_
      refine LW.q rfl (Qt.add rfl rfl (wr64 (by omega) (by omega))) ?_
      refine LW.q rfl (Qt.assign rfl) ?_
      refine LW.done ?_
      refine ⟨rfl, _, ?_, _, ⟨_, i + 1, ⟨hil, by omega, by rw [preK_succ hkm.2.1 hpi]; exact wk_nh hnh2 hin⟩, rfl, (updS rfl (updS rfl (updS rfl (updS rfl (updS rfl rfl))))), rfl⟩, (fun k K => by rw [preK_succ hkm.2.1 hpi, wk_J hin]; exact walk_back K)⟩
      first | omega | (simp; omega)
     ·
      try simp only [List.cons_append, List.nil_append]
      refine ⟨Sub.any, ?_⟩
      first | refine RY.q 31 rfl rfl (by kernel_rfl) Sub.any (Qt.notP rfl) ?_ | refine RY.q 31 rfl rfl (by kernel_rfl) Sub.any (Qt.notB rfl) ?_
      refine RY.q 32 rfl rfl (by kernel_rfl) Sub.any (Qt.pick rfl rfl) ?_
      refine RY.done (by rfl) ?_
      simp only [List.drop_succ_cons, List.drop_zero, List.drop_nil]
      refine LI.done ?_
      first | refine TI.condT rfl ?_ | refine TI.condPT rfl (by omega) ?_ | refine TI.condBT rfl (by omega) ?_
      refine TI.seq ?_
      refine TI.region (by rfl) ?_
      refine LW.q rfl (Qt.assign rfl) ?_
      refine LW.done ?_
      refine TI.ret ?_
      first | exact ⟨.inl rfl, _, .nil, _, _, res [_] rfl ⟨rvT rfl, trivial⟩, ⟨false, _, rfl, rfl, .inr (.inr ⟨rfl, _, wk_y hLp hin hp, by simp, rfl⟩)⟩, (fun k K => walk_end (walk_back K))⟩ | exact ⟨.inl rfl, _, Marks.one, _, _, res [_] rfl ⟨rvT rfl, trivial⟩, ⟨false, _, rfl, rfl, .inr (.inr ⟨rfl, _, wk_y hLp hin hp, by simp, rfl⟩)⟩, (fun k K => walk_end (walk_back K))⟩
   ·
    try replace hto := of_decide_eq_false hto
    have hin : inR f t p = true := by have h9 : t = [] := Decidable.not_not.1 hto; simp [inR, hfp, h9]
    refine RY.s 3 rfl rfl (by kernel_rfl) Sub.any ?_
    refine RY.s 4 rfl rfl (by kernel_rfl) Sub.any ?_
    refine RY.s 5 rfl rfl (by kernel_rfl) Sub.any ?_
    refine RY.s 6 rfl rfl (by kernel_rfl) Sub.any ?_
    refine RY.s 7 rfl rfl (by kernel_rfl) Sub.any ?_
    refine RY.s 8 rfl rfl (by kernel_rfl) Sub.any ?_
    refine RY.s 9 rfl rfl (by kernel_rfl) Sub.any ?_
    refine RY.s 10 rfl rfl (by kernel_rfl) Sub.any ?_
    refine RY.s 11 rfl rfl (by kernel_rfl) Sub.any ?_
    refine RY.s 12 rfl rfl (by kernel_rfl) Sub.any ?_
    refine RY.q 13 rfl rfl (by kernel_rfl) Sub.any (Qt.pick rfl rfl) ?_
    refine RY.q 14 rfl rfl (by kernel_rfl) Sub.any (Qt.move rfl) ?_
    first | refine RY.gF (t := 64) rfl rfl ?_ | refine RY.gF (t := 64) rfl (decide_eq_false (by omega)) ?_ | refine RY.gF (t := 64) rfl (by omega) ?_
    refine RY.q 15 rfl rfl (by kernel_rfl) Sub.any (Qt.move rfl) ?_
    refine RY.q 16 rfl rfl (by kernel_rfl) Sub.any (Qt.move rfl) ?_
    refine RY.q 17 rfl rfl (by kernel_rfl) Sub.any (Qt.nilCheck rfl) ?_
    refine RY.q 18 rfl rfl (by kernel_rfl) Sub.any (Qt.fieldAddr0 (by kernel_rfl) rfl) ?_
    refine RY.q 19 rfl rfl (by kernel_rfl) Sub.any (Qt.load (v := .slice (some ⟨b1, o1, none⟩) x.kv.length x.kc) (by kernel_rfl) rfl (by rw [← hka]; rfl)) ?_
    refine RY.q 20 rfl rfl (by kernel_rfl) Sub.any (Qt.move rfl) ?_
    refine RY.q 21 rfl rfl (by kernel_rfl) Sub.any (Qt.index i (e := 9) (sz := 1) (by kernel_rfl) rfl rfl rfl hil) ?_
    refine RY.q 22 rfl rfl (by kernel_rfl) Sub.any (Qt.loadW (v := kT p.1) (by kernel_rfl) rfl (fun w ho => by have := hc1 i (by simp; omega) w (ho.map Sub.any); simpa [hpe] using this)) ?_
    refine RY.q 23 rfl rfl (by kernel_rfl) Sub.any (Qt.move rfl) ?_
    refine RY.q 24 rfl rfl (by kernel_rfl) Sub.any (Qt.nilCheck rfl) ?_
    refine RY.q 25 rfl rfl (by kernel_rfl) Sub.any (Qt.fieldAddr (off := 1) (by kernel_rfl) rfl) ?_
    refine RY.q 26 rfl rfl (by kernel_rfl) Sub.any (Qt.load (v := .slice (some ⟨b2, o2, none⟩) x.kv.length x.vc) (by kernel_rfl) rfl (by rw [← hva]; rfl)) ?_
    refine RY.q 27 rfl rfl (by kernel_rfl) Sub.any (Qt.move rfl) ?_
    refine RY.q 28 rfl rfl (by kernel_rfl) Sub.any (Qt.index i (e := 2) (sz := 1) (by kernel_rfl) rfl rfl rfl hil) ?_
    refine RY.q 29 rfl rfl (by kernel_rfl) Sub.any (Qt.loadW (v := iV p.2) (by kernel_rfl) rfl (fun w ho => by have := hc2 i (by simp; omega) w (ho.map Sub.any); simpa [hpe] using this)) ?_
    refine RY.one 30 (by kernel_rfl) ?_
    refine RJ.yS rfl rfl (Ey.yield [kT p.1, iV p.2] (hY (pre0 ++ rgL f t (preK h ks x.kv i ++ kidL h ks i)) p (wk_y hLp hin hp)) rfl rfl ?_)
    rintro _ _ (⟨rfl, rfl⟩ | ⟨rfl, rfl⟩)
    ·
     try simp only [List.cons_append, List.nil_append]
     refine ⟨Sub.any, ?_⟩
     first | refine RY.q 31 rfl rfl (by kernel_rfl) Sub.any (Qt.notP rfl) ?_ | refine RY.q 31 rfl rfl (by kernel_rfl) Sub.any (Qt.notB rfl) ?_
     refine RY.q 32 rfl rfl (by kernel_rfl) Sub.any (Qt.pick rfl rfl) ?_
     refine RY.done (by rfl) ?_
     simp only [List.drop_succ_cons, List.drop_zero, List.drop_nil]
     refine LI.done ?_
     first | refine TI.condF rfl ?_ | refine TI.condPF rfl (by omega) ?_ | refine TI.condBF rfl (by omega) ?_
     refine TI.skip ?_
     refine TI.region (by rfl) ?_
     refine LW.q rfl (Qt.move rfl) ?_
     refine LW.q rfl (Qt.add rfl rfl (wr64 (by omega) (by omega))) ?_
     refine LW.q rfl (Qt.assign rfl) ?_
     refine LW.done ?_
     refine ⟨rfl, _, ?_, _, ⟨_, i + 1, ⟨hil, by omega, by rw [preK_succ hkm.2.1 hpi]; exact wk_nh hnh2 hin⟩, rfl, (updS rfl (updS rfl (updS rfl (updS rfl (updS rfl rfl))))), rfl⟩, (fun k K => by rw [preK_succ hkm.2.1 hpi, wk_J hin]; exact walk_back K)⟩
     first | omega | (simp; omega)
    ·
     try simp only [List.cons_append, List.nil_append]
     refine ⟨Sub.any, ?_⟩
     first | refine RY.q 31 rfl rfl (by kernel_rfl) Sub.any (Qt.notP rfl) ?_ | refine RY.q 31 rfl rfl (by kernel_rfl) Sub.any (Qt.notB rfl) ?_
     refine RY.q 32 rfl rfl (by kernel_rfl) Sub.any (Qt.pick rfl rfl) ?_
     refine RY.done (by rfl) ?_
     simp only [List.drop_succ_cons, List.drop_zero, List.drop_nil]
     refine LI.done ?_
     first | refine TI.condT rfl ?_ | refine TI.condPT rfl (by omega) ?_ | refine TI.condBT rfl (by omega) ?_
     refine TI.seq ?_
     refine TI.region (by rfl) ?_
     refine LW.q rfl (Qt.assign rfl) ?_
     refine LW.done ?_
     refine TI.ret ?_
     first | exact ⟨.inl rfl, _, .nil, _, _, res [_] rfl ⟨rvT rfl, trivial⟩, ⟨false, _, rfl, rfl, .inr (.inr ⟨rfl, _, wk_y hLp hin hp, by simp, rfl⟩)⟩, (fun k K => walk_end (walk_back K))⟩ | exact ⟨.inl rfl, _, Marks.one, _, _, res [_] rfl ⟨rvT rfl, trivial⟩, ⟨false, _, rfl, rfl, .inr (.inr ⟨rfl, _, wk_y hLp hin hp, by simp, rfl⟩)⟩, (fun k K => walk_end (walk_back K))⟩
theorem Bt.walkT (B : Base) (o h : Nat) (r : Bool) (T0 : LT h) (f t : Str) (lp : Nat) (J Jx : List KV → List Assn) (R pre0 : List KV) (ho : 2 ≤ o) (ho2 : o ≤ 64) (hok : okT o h r T0) (hu : Up (toL h T0)) (hp : pre0 ++ rgL f t (toL h T0) <+: R)
    (hY : ∀ pre y, (pre ++ [y]) <+: R → FnY Try.prog B lp [kT y.1, iV y.2] (J pre) (fun v l => (v = .bool true ∧ l = J (pre ++ [y])) ∨ (v = .bool false ∧ l = Jx (pre ++ [y]))))
    (IH : ∀ k : LK h, LK.ok o h k → Up (LK.l h k) → ∀ pre, pre ++ rgL f t (LK.l h k) <+: R → Fn Try.prog B 51 #[pV (LK.nd h k).p, kT f, kT t, .func (.yield lp) #[] #[]] (LK.a h k :: J pre) (walkP f t R J Jx (LK.l h k) pre (LK.a h k))) :
    Fn Try.prog B 51 #[pV (LT.nd h T0).p, kT f, kT t, .func (.yield lp) #[] #[]] (treeA h T0 :: J pre0) (walkP f t R J Jx (toL h T0) pre0 (treeA h T0)) := by
  have := Bt.walk0 B o h r (LT.nd h T0) (LT.ksL h T0) f t lp J Jx R pre0 ho ho2 (by rw [LT.eta]; exact hok) (by rw [LT.eta]; exact hu) (by rw [LT.eta]; exact hp) hY IH
  rw [LT.eta] at this
  exact this
theorem Bt.walkK (B : Base) (o : Nat) (f t : Str) (lp : Nat) (J Jx : List KV → List Assn) (R : List KV) (ho : 2 ≤ o) (ho2 : o ≤ 64)
    (hY : ∀ pre y, (pre ++ [y]) <+: R → FnY Try.prog B lp [kT y.1, iV y.2] (J pre) (fun v l => (v = .bool true ∧ l = J (pre ++ [y])) ∨ (v = .bool false ∧ l = Jx (pre ++ [y])))) :
    ∀ (h : Nat) (k : LK h), LK.ok o h k → Up (LK.l h k) → ∀ pre, pre ++ rgL f t (LK.l h k) <+: R → Fn Try.prog B 51 #[pV (LK.nd h k).p, kT f, kT t, .func (.yield lp) #[] #[]] (LK.a h k :: J pre) (walkP f t R J Jx (LK.l h k) pre (LK.a h k))
  | 0, k, _, _, _, _ => k.elim
  | h + 1, k, hk, hu, pre, hp => Bt.walkT B o h false k f t lp J Jx R pre ho ho2 hk hu hp hY (Bt.walkK B o f t lp J Jx R ho ho2 hY h)
theorem Bt.walk (B : Base) (o h : Nat) (r : Bool) (T0 : LT h) (f t : Str) (lp : Nat) (J Jx : List KV → List Assn) (R pre0 : List KV) (ho : 2 ≤ o) (ho2 : o ≤ 64) (hok : okT o h r T0) (hu : Up (toL h T0)) (hp : pre0 ++ rgL f t (toL h T0) <+: R)
    (hY : ∀ pre y, (pre ++ [y]) <+: R → FnY Try.prog B lp [kT y.1, iV y.2] (J pre) (fun v l => (v = .bool true ∧ l = J (pre ++ [y])) ∨ (v = .bool false ∧ l = Jx (pre ++ [y])))) :
    Fn Try.prog B 51 #[pV (LT.nd h T0).p, kT f, kT t, .func (.yield lp) #[] #[]] (treeA h T0 :: J pre0) (walkP f t R J Jx (toL h T0) pre0 (treeA h T0)) := Bt.walkT B o h r T0 f t lp J Jx R pre0 ho ho2 hok hu hp hY (Bt.walkK B o f t lp J Jx R ho ho2 hY h)
end Go.Proofs.Ytefognjcognknaa

/- btree: Range. Conditions: sizes. -/
set_option linter.unusedSimpArgs false
set_option linter.unusedVariables false
namespace Go.Proofs.Ytefognjcognknaa
open Go.RowKit
section
variable {P : Program} {B : Base} {n : Nat} {S l : List Assn} {f : Fr}
variable {d : Option Tmp} {ty : TypeId} {pos : String} {af : Array Edge} {gd : Option (Nat × Bool)}
theorem Qt.makeFunc {g : FuncId} {bs : Array Operand} (vs : List Value) (hb : bs.toList.map (ev n f) = vs.map some) : Qt P B n S ⟨d, .makeFunc (.func g) #[] bs, ty, pos, af, gd⟩ f (.func (.func g) #[] vs.toArray) := ⟨fun w _ => by
  have hav : bs.map (evu n f) = vs.toArray := by
    have : bs.toList.map (evu n f) = vs := by
      have e := congrArg (List.map (fun o : Option Value => o.getD undef)) hb
      have e2 : (fun x => evu n f x) = evu n f := rfl
      simp only [List.map_map, Function.comp_def, Option.getD_some, List.map_id'] at e
      exact e
    rw [← Array.toList_inj, Array.toList_map]
    simpa using this
  simp [execOp, hav, Instr.makeFunc]⟩
end
/-- The boxes that a range's iterator has. -/
abbrev rgB (g1 g2 g3 g : Nat) (f t : Str) : List Assn := [blk g1 [pV g] 24, blk g2 [kT f] 9, blk g3 [kT t] 9]
theorem Bt.Range (B : Base) (g : Nat) (f t : Str) : Fn Try.prog B 20 #[pV g, kT f, kT t] [] (fun u l => ∃ g1 g2 g3, u = .func (.func 49) #[] #[pV g1, pV g2, pV g3] ∧ l = rgB g1 g2 g3 g f t) := by
  refine Fn.enter3 8 Try.func20 rfl rfl (Nat.le_of_ble_eq_true rfl) (fun F => ?_)
  try simp only [List.cons_append, List.nil_append]
  refine T.seq ?_
  refine T.region ?_
  refine LW.e rfl (Ef.box [_] rfl rfl ?_)
  intro g3
  refine LW.e rfl (Ef.box [_] rfl rfl ?_)
  intro g4
  refine LW.e rfl (Ef.box [_] rfl rfl ?_)
  intro g5
  refine LW.q rfl (Qt.assign rfl) ?_
  refine LW.done ?_
  refine T.seq ?_
  refine T.region ?_
  refine LW.q rfl (Qt.makeFunc [_, _, _] rfl) ?_
  refine LW.q rfl (Qt.assign rfl) ?_
  refine LW.done ?_
  refine T.ret ?_
  exact ⟨.inl rfl, _, _, res [_] rfl ⟨rvT rfl, trivial⟩, ⟨g3, g4, g5, rfl, rfl⟩, Sub.any⟩
theorem iter_start {H o g : Nat} {T0 T1 : LT H} {K0 : List Assn} {g1 g2 g3 : Nat} {f t : Str} {J : List KV → List Assn} {F : List Assn} {k : Piece} (hu : Up (toL H T0)) (ho : 2 ≤ o) (ho2 : o ≤ 64) (hok : okT o H true T0) (hs : Sub (([btA g o (toL H T0)] : List Assn) ++ K0) (J []))
    (K : Has (treeA H T1 :: treeA H T0 :: trB g o (LT.nd H T0).p (toL H T0).length :: (rgB g1 g2 g3 g f t ++ K0 ++ F)) k) : Has (treeA H T1 :: (rgB g1 g2 g3 g f t ++ (J [] ++ F))) k := by
  refine Has.cons_imp (fun q K => ?_) K
  have K1 := Has.bt_in hok rfl hu ho ho2 (Has.swap K)
  have K2 : Has ([btA g o (toL H T0)] ++ (rgB g1 g2 g3 g f t ++ (K0 ++ F))) q := by
    rw [List.append_assoc] at K1; exact K1
  have K3 := Has.late K2
  have K4 : Has (rgB g1 g2 g3 g f t ++ (([btA g o (toL H T0)] ++ K0) ++ F)) q := by rw [List.append_assoc]; exact K3
  obtain ⟨k1, k2, d, a, b, K5, K6⟩ := Has.split K4
  obtain ⟨k3, k4, d2, a2, b2, K7, K8⟩ := Has.split K6
  exact Has.join d a b K5 (Has.join d2 a2 b2 (hs _ K7) K8)
theorem iter_end {A a b c : Assn} {st F : List Assn} {k : Piece} (K : Has (A :: (st ++ a :: b :: c :: F)) k) : Has (a :: b :: c :: st ++ F) k := Has.late (m := [a, b, c]) K.tail
set_option maxHeartbeats 1000000 in
/-- The iterator: it copies the tree ahead of the first round; then the tree is the rounds' own. -/
theorem Bt.iter (B : Base) (g1 g2 g3 g o : Nat) (f t : Str) (L : List KV) : Iter Try.prog B 49 [pV g1, pV g2, pV g3] (fun p : KV => [kT p.1, iV p.2]) [btA g o L] (rgB g1 g2 g3 g f t) (fun pre x => (pre ++ [x]) <+: rgL f t L) (fun xs => xs = rgL f t L) (fun xs => xs <+: rgL f t L ∧ xs ≠ []) (fun _ => rgB g1 g2 g3 g f t) (fun _ => rgB g1 g2 g3 g f t) := by
  intro lp J Jx K0 hs1 hs2 hY
  refine Fn.conv (pre := btA g o L :: (rgB g1 g2 g3 g f t ++ K0)) (F' := []) (R := fun _ l => (∃ xs, xs = rgL f t L ∧ l = rgB g1 g2 g3 g f t ++ J xs) ∨ (∃ xs, (xs <+: rgL f t L ∧ xs ≠ []) ∧ l = rgB g1 g2 g3 g f t ++ Jx xs)) (Fn.bt fun H T0 hok hL hu ho ho2 => ?_) (fun k K => ?_) fun v l h => ⟨l, fun k K => by simpa using K, h⟩
  · subst hL
    show Fn Try.prog B _ #[.func (.yield lp) #[] #[], pV g1, pV g2, pV g3] _ _
    refine Fn.enter4 14 Try.func49 rfl rfl (Nat.le_of_ble_eq_true rfl) (fun F => ?_)
    try simp only [List.cons_append, List.nil_append]
    refine T.draw 9 ([blk g1 [pV g] 24, blk g2 [kT f] 9, blk g3 [kT t] 9, trB g o (LT.nd H T0).p (toL H T0).length]) (by kernel_rfl) (Nat.le_of_ble_eq_true rfl) (by kernel_rfl) ?_
    first | refine RW.q 0 rfl rfl (by kernel_rfl) Sub.any (Qt.load (by kernel_rfl) rfl rfl) ?_ | refine RW.q 0 rfl rfl (by kernel_rfl) Sub.any (Qt.load (by kernel_rfl) rfl (map_at _ _ _ (by omega))) ?_ | refine RW.q 0 rfl rfl (by kernel_rfl) Sub.any (Qt.load (by kernel_rfl) rfl (flat_cell0 _ _ _ (by intros; rfl) _ (by omega) (by rfl))) ?_ | refine RW.q 0 rfl rfl (by kernel_rfl) Sub.any (Qt.load (by kernel_rfl) rfl (flat_cell _ _ _ (by intros; rfl) _ _ (by omega) (by rfl))) ?_ | refine RW.q 0 rfl rfl (by kernel_rfl) Sub.any (Qt.load (by kernel_rfl) rfl (bytes_at _ _ (by omega))) ?_
    refine RW.q 1 rfl rfl (by kernel_rfl) Sub.any (Qt.nilCheck rfl) ?_
    refine RW.q 2 rfl rfl (by kernel_rfl) Sub.any (Qt.fieldAddr (off := 1) (by kernel_rfl) rfl) ?_
    first | refine RW.q 3 rfl rfl (by kernel_rfl) Sub.any (Qt.load (by kernel_rfl) rfl rfl) ?_ | refine RW.q 3 rfl rfl (by kernel_rfl) Sub.any (Qt.load (by kernel_rfl) rfl (map_at _ _ _ (by omega))) ?_ | refine RW.q 3 rfl rfl (by kernel_rfl) Sub.any (Qt.load (by kernel_rfl) rfl (flat_cell0 _ _ _ (by intros; rfl) _ (by omega) (by rfl))) ?_ | refine RW.q 3 rfl rfl (by kernel_rfl) Sub.any (Qt.load (by kernel_rfl) rfl (flat_cell _ _ _ (by intros; rfl) _ _ (by omega) (by rfl))) ?_ | refine RW.q 3 rfl rfl (by kernel_rfl) Sub.any (Qt.load (by kernel_rfl) rfl (bytes_at _ _ (by omega))) ?_
    first | refine RW.q 5 rfl rfl (by kernel_rfl) Sub.any (Qt.load (by kernel_rfl) rfl rfl) ?_ | refine RW.q 5 rfl rfl (by kernel_rfl) Sub.any (Qt.load (by kernel_rfl) rfl (map_at _ _ _ (by omega))) ?_ | refine RW.q 5 rfl rfl (by kernel_rfl) Sub.any (Qt.load (by kernel_rfl) rfl (flat_cell0 _ _ _ (by intros; rfl) _ (by omega) (by rfl))) ?_ | refine RW.q 5 rfl rfl (by kernel_rfl) Sub.any (Qt.load (by kernel_rfl) rfl (flat_cell _ _ _ (by intros; rfl) _ _ (by omega) (by rfl))) ?_ | refine RW.q 5 rfl rfl (by kernel_rfl) Sub.any (Qt.load (by kernel_rfl) rfl (bytes_at _ _ (by omega))) ?_
    first | refine RW.q 6 rfl rfl (by kernel_rfl) Sub.any (Qt.load (by kernel_rfl) rfl rfl) ?_ | refine RW.q 6 rfl rfl (by kernel_rfl) Sub.any (Qt.load (by kernel_rfl) rfl (map_at _ _ _ (by omega))) ?_ | refine RW.q 6 rfl rfl (by kernel_rfl) Sub.any (Qt.load (by kernel_rfl) rfl (flat_cell0 _ _ _ (by intros; rfl) _ (by omega) (by rfl))) ?_ | refine RW.q 6 rfl rfl (by kernel_rfl) Sub.any (Qt.load (by kernel_rfl) rfl (flat_cell _ _ _ (by intros; rfl) _ _ (by omega) (by rfl))) ?_ | refine RW.q 6 rfl rfl (by kernel_rfl) Sub.any (Qt.load (by kernel_rfl) rfl (bytes_at _ _ (by omega))) ?_
    refine RW.q 7 rfl rfl (by kernel_rfl) Sub.any (Qt.move rfl) ?_
    refine RW.one 4 (by kernel_rfl) ?_
    refine RO.eS rfl rfl (Ef.call (Bt.copied B o H true T0 ho ho2 hok) Try.func50 rfl rfl rfl ?_)
    rintro _ _ ⟨T1, e1, e2, rfl, rfl⟩
    try simp only [List.cons_append, List.nil_append]
    refine ⟨Sub.any, ?_⟩
    refine RW.conv (fun w ho' => ho'.map fun k K => iter_start (F := F) hu ho ho2 hok hs2 (by simp only [List.cons_append, List.nil_append]; exact K)) ?_
    simp only [List.cons_append, List.nil_append]
    refine RW.one 8 (by kernel_rfl) ?_
    refine RO.r rfl rfl (by kernel_rfl) (Ef.call (Bt.walk B o H true T1 f t lp J Jx (rgL f t (toL H T0)) [] ho ho2 e2 (by rw [e1]; exact hu) (by rw [e1]; exact List.prefix_refl _) hY) Try.func51 rfl rfl rfl ?_)
    rintro _ _ ⟨b, st, rfl, rfl, hres⟩
    try simp only [List.cons_append, List.nil_append]
    refine RW.done (by rfl) ?_
    simp only [List.drop_succ_cons, List.drop_zero, List.drop_nil]
    refine LW.done ?_
    rcases hres with ⟨rfl, _, rfl⟩ | ⟨rfl, _, rfl⟩ | ⟨rfl, xs, hx, hx2, rfl⟩; exact ⟨.inr rfl, _, _, res [] rfl trivial, .inl ⟨_, rfl, rfl⟩, fun k K => iter_end (by rw [e1] at K; exact K)⟩; exact ⟨.inr rfl, _, _, res [] rfl trivial, .inl ⟨_, rfl, rfl⟩, fun k K => iter_end (by rw [e1] at K; exact K)⟩; exact ⟨.inr rfl, _, _, res [] rfl trivial, .inr ⟨_, ⟨hx, hx2⟩, rfl⟩, fun k K => iter_end K⟩
  · have K1 : Has (J [] ++ rgB g1 g2 g3 g f t) k := Has.flip K
    obtain ⟨k1, k2, d, a, b, K2, K3⟩ := Has.split K1
    have K4 := Has.join d a b (hs1 _ K2) K3
    have K5 : Has (btA g o L :: (K0 ++ rgB g1 g2 g3 g f t)) k := K4
    rw [List.append_nil]
    exact Has.cons_imp (fun _ K => Has.flip K) K5
end Go.Proofs.Ytefognjcognknaa

/- btree's laws: listed, pairs. Conditions: sizes. -/
set_option linter.unusedSimpArgs false
set_option linter.unusedVariables false
namespace Go.Proofs.Ytefognjcognknaa
open Go.RowKit
abbrev kvC (p : KV) : List Value := [kT p.1, iV p.2]
abbrev kvF (l : List KV) : List Value := l.flatMap kvC
theorem Bu.elem : ElemOk Try.prog 30 36 2 24 := .mk' (.agg #[.string .empty, .int .i64 0]) (by kernel_rfl) (by kernel_rfl) rfl (by decide)
/-- A list of pairs. -/
abbrev rowP (p : Option Addr) (c : Nat) (l : List KV) : Assn := row (.slice p l.length c) 36 2 l.length (kvF l)
def outA (g : Nat) (xs : List KV) : Assn := exA fun (pc : Option Addr × Nat) => sepL [blk g [.slice pc.1 xs.length pc.2] 30, rowP pc.1 pc.2 xs]
theorem outA_ex {B : Base} {g : Nat} {xs : List KV} {l : List Assn} (w : World) (ho : Own B w (outA g xs :: l)) : ∃ pc : Option Addr × Nat, Own B w (blk g [.slice pc.1 xs.length pc.2] 30 :: rowP pc.1 pc.2 xs :: l) := by
  obtain ⟨h, a, b, H⟩ := ho.has
  obtain ⟨pc, H1⟩ := Has.open_ex H
  exact ⟨pc, ho.os, ho.tape, ho.output, ho.ro, h, a, b, Has.open_sepL H1⟩
theorem outA_in {g : Nat} {xs : List KV} {p : Option Addr} {c : Nat} {l : List Assn} {k : Piece} (H : Has (blk g [.slice p xs.length c] 30 :: rowP p c xs :: l) k) : Has (outA g xs :: l) k := Has.close_ex (p, c) (Has.close_sepL (l := [blk g [.slice p xs.length c] 30, rowP p c xs]) H)
theorem listed_start {g7 g o : Nat} {g1 g2 g3 : Nat} {f t : Str} {L : List KV} {F : List Assn} {k : Piece} (K : Has (blk g1 [pV g] 24 :: blk g2 [kT f] 9 :: blk g3 [kT t] 9 :: btA g o L :: blk g7 [.slice none 0 0] 30 :: F) k) : Has (rgB g1 g2 g3 g f t ++ [btA g o L, outA g7 []] ++ F) k :=
  Has.head K fun _ K => Has.head K fun _ K => Has.head K fun _ K => Has.head K fun _ K => outA_in (p := none) (c := 0) (xs := []) (Has.cons_imp (fun _ K => Has.rowNil K) K)
theorem listed_round {g7 g o : Nat} {xs : List KV} {x : KV} {L : List KV} {p : Option Addr} {c : Nat} {F : List Assn} {k : Piece} (K : Has (blk g7 [.slice p (xs.length + 1) c] 30 :: row (.slice p (xs.length + 1) c) 36 2 (xs.length + 1) (kvF xs ++ [kT x.1, iV x.2]) :: btA g o L :: F) k) : Has (btA g o L :: outA g7 (xs ++ [x]) :: F) k := by
  have e : kvF xs ++ [kT x.1, iV x.2] = kvF (xs ++ [x]) := flat_snoc kvC xs x
  have e2 : xs.length + 1 = (xs ++ [x]).length := by simp
  rw [e, e2] at K
  exact Has.swap (outA_in K)
set_option maxHeartbeats 2000000 in
theorem Bu.listed (B : Base) (g o : Nat) (f t : Str) (L : List KV) (hb : L.length < 2 ^ 39) : Fn Try.prog B 17 #[pV g, kT f, kT t] [btA g o L] (fun u l => ∃ p c, u = .slice p (rgL f t L).length c ∧ l = [rowP p c (rgL f t L), btA g o L]) := by
 refine Fn.enterM3 23 Try.func17 rfl rfl (Nat.le_of_ble_eq_true rfl) (fun F => ?_)
 try simp only [List.cons_append, List.nil_append]
 refine TI.seq ?_
 refine TI.region (by rfl) ?_
 refine LW.q rfl (Qt.assign rfl) ?_
 refine LW.done ?_
 refine TI.seq ?_
 refine TI.region (by rfl) ?_
 refine LW.e rfl (Ef.alloc [.slice none 0 0] (by unfold zeroB; kernel_rfl) ?_)
 intro g7
 refine LW.done ?_
 refine TI.seq ?_
 refine TI.seq ?_
 refine TI.region (by rfl) ?_
 refine LW.q rfl (Qt.move rfl) ?_
 refine LW.q rfl (Qt.move rfl) ?_
 refine LW.q rfl (Qt.move rfl) ?_
 refine LW.e rfl (Ef.call (Bt.Range B g f t) Try.func20 rfl rfl rfl ?_)
 rintro _ _ ⟨g1, g2, g3, rfl, rfl⟩
 try simp only [List.cons_append, List.nil_append]
 refine LW.done ?_
 refine TI.block ?_
 refine TI.conv (l' := rgB g1 g2 g3 g f t ++ [btA g o L, outA g7 []] ++ F) (fun w ho => ho.map fun k K => listed_start (Sub.any k K)) ?_
 simp only [List.cons_append, List.nil_append]
 refine TI.rangeL (fun xs => [btA g o L, outA g7 xs]) (fun _ _ => [pu False]) (_) rfl (Bt.iter B g1 g2 g3 g o f t L) rfl (entersOf Try.func49 rfl rfl) (fun _ => rfl) ([blk g1 [pV g] 24, blk g2 [kT f] 9, blk g3 [kT t] 9, btA g o L, outA g7 []]) rfl ?_ ?_ ?_
 ·
  rintro lp xs x F0 hG
  simp only [List.zip_cons_cons, List.zip_nil_right, List.zip_nil_left, pjs, List.cons_append, List.nil_append]
  refine TI.seq ?_
  refine TI.region (by rfl) ?_
  refine LW.q rfl (Qt.assign rfl) ?_
  refine LW.done ?_
  refine TI.region (by rfl) ?_
  refine LW.q rfl (Qt.assign rfl) ?_
  refine LW.done ?_
  refine ⟨rfl, rfl, [btA g o L, outA g7 xs], Sub.any, fun F1 => ?_⟩
  try simp only [List.cons_append, List.nil_append]
  refine TI.ex (l' := fun pc : Option Addr × Nat => blk g7 [.slice pc.1 xs.length pc.2] 30 :: rowP pc.1 pc.2 xs :: btA g o L :: F1) (fun w ho => outA_ex w (ho.map Sub.any)) (fun pc => ?_)
  obtain ⟨p, c⟩ := pc
  have hxl : xs.length + 1 ≤ L.length := by have := hG.length_le; simp at this; have h2 : (rgL f t L).length ≤ L.length := List.length_filter_le (inR f t) L; omega
  refine TI.block ?_
  refine TI.region (by rfl) ?_
  first | refine LW.q rfl (Qt.load (by kernel_rfl) rfl rfl) ?_ | refine LW.q rfl (Qt.load (by kernel_rfl) rfl (map_at _ _ _ (by omega))) ?_ | refine LW.q rfl (Qt.load (by kernel_rfl) rfl (flat_cell0 _ _ _ (by intros; rfl) _ (by omega) (by rfl))) ?_ | refine LW.q rfl (Qt.load (by kernel_rfl) rfl (flat_cell _ _ _ (by intros; rfl) _ _ (by omega) (by rfl))) ?_ | refine LW.q rfl (Qt.load (by kernel_rfl) rfl (bytes_at _ _ (by omega))) ?_
  refine LW.q rfl (Qt.move rfl) ?_
  refine LW.q rfl (Qt.move rfl) ?_
  refine LW.q rfl (Qt.build [(0, 1), (1, 1)] [.string .empty, .int .i64 0] [_, _] [(0, _), (1, _)] (by kernel_rfl) (by unfold zeroB; kernel_rfl) rfl rfl) ?_
  refine LW.e rfl (Ef.one [_, _] (e := 36) (sz := 2) (by kernel_rfl) ⟨.agg #[.string .empty, .int .i64 0], by kernel_rfl, rfl⟩ rfl rfl rfl (by omega) (by omega) ?_)
  intro g20
  refine LW.e rfl (Ef.append Bu.elem rfl rfl (SrcOf.blk (by kernel_rfl) rfl (by simp [Value.oneCell'])) (by unfold maxLen; omega) (by omega) ?_)
  rintro p4 c4 hp4
  try simp only [List.cons_append, List.nil_append]
  refine LW.e0 rfl (Ef.store1 (by kernel_rfl) rfl rfl rfl (by first | (simp; done) | (simp; omega)) ?_)
  try simp only [List.set_cons_zero, List.set_cons_succ]
  refine LW.done ?_
  refine ⟨rfl, ?_⟩
  try simp only [List.cons_append, List.nil_append]
  exact fun k K => listed_round (p := p4) (c := c4) (Sub.any k K)
 ·
  rintro D xs hS
  try simp only [List.cons_append, List.nil_append, List.append_nil]
  refine TI.ex (l' := fun pc : Option Addr × Nat => blk g7 [.slice pc.1 xs.length pc.2] 30 :: rowP pc.1 pc.2 xs :: btA g o L :: objA D (.deferred (some [])) :: F) (fun w ho => outA_ex w (ho.map Sub.any)) (fun pc => ?_)
  obtain ⟨p, c⟩ := pc
  subst hS
  refine TI.seq ?_
  refine TI.region (by rfl) ?_
  first | refine LW.q rfl (Qt.load (by kernel_rfl) rfl rfl) ?_ | refine LW.q rfl (Qt.load (by kernel_rfl) rfl (map_at _ _ _ (by omega))) ?_ | refine LW.q rfl (Qt.load (by kernel_rfl) rfl (flat_cell0 _ _ _ (by intros; rfl) _ (by omega) (by rfl))) ?_ | refine LW.q rfl (Qt.load (by kernel_rfl) rfl (flat_cell _ _ _ (by intros; rfl) _ _ (by omega) (by rfl))) ?_ | refine LW.q rfl (Qt.load (by kernel_rfl) rfl (bytes_at _ _ (by omega))) ?_
  refine LW.q rfl (Qt.assign rfl) ?_
  refine LW.done ?_
  refine TI.ret ?_
  first | exact ⟨.inl rfl, _, .nil, _, _, res [_] rfl ⟨rvT rfl, trivial⟩, ⟨p, c, rfl, rfl⟩, Sub.any⟩ | exact ⟨.inl rfl, _, Marks.one, _, _, res [_] rfl ⟨rvT rfl, trivial⟩, ⟨p, c, rfl, rfl⟩, Sub.any⟩
 ·
  rintro D c xs hS
  exact TI.own fun w ho => by obtain ⟨_, _, _, H⟩ := ho.has; exact (Has.open_pu H.tail.tail.tail.tail).1.elim
end Go.Proofs.Ytefognjcognknaa
