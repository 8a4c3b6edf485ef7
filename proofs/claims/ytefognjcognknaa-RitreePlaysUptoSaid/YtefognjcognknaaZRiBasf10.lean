/- The texts BtP, one behind the other: what the law leans on. Conditions: as each theorem says. -/
import Derived.Test.YtefognjcognknaaZRiBasf9
/- btree: fill. Conditions: sizes. -/
set_option linter.unusedSimpArgs false
set_option linter.unusedVariables false
namespace Go.Proofs.Ytefognjcognknaa
open Go.RowKit
theorem fill_same {g o r cnt h lo : Nat} {x : Nd} {L1 L2 : List (LT h)} {q : LT h} (hok : okN o lo (h + 1) (LT.mk (h + 1) x (L1 ++ q :: L2))) (hb : o ≤ (LT.nd h q).kv.length) : fillR g o r cnt h x L1 q L2 (pV (LT.nd h q).p) [trB g o r cnt, treeA (h + 1) (LT.mk (h + 1) x (L1 ++ q :: L2))] :=
  ⟨x, L1, q, L2, rfl, by omega, hok.mono (Nat.zero_le _), rfl, hb, fun _ h => h, rfl, rfl⟩
abbrev opn1 (h : Nat) (x : Nd) (L1 : List (LT h)) (q : LT h) (L2 : List (LT h)) (m : List Assn) : List Assn :=
  ndB x ((L1 ++ q :: L2).map fun k => (LT.nd h k).p).length :: ndK x :: ndV x :: ndC x ((L1 ++ q :: L2).map fun k => (LT.nd h k).p) ::
  ndB (LT.nd h q) ((LT.ksL h q).map fun k => (LK.nd h k).p).length :: ndK (LT.nd h q) :: ndV (LT.nd h q) :: ndC (LT.nd h q) ((LT.ksL h q).map fun k => (LK.nd h k).p) ::
  sepL ((LT.ksL h q).map (LK.a h)) :: sepL (L1.map (treeA h)) :: sepL (L2.map (treeA h)) :: m
theorem Has.open1 {h : Nat} {x : Nd} {L1 L2 : List (LT h)} {q : LT h} {m : List Assn} {k : Piece} (K : Has (treeA (h + 1) (LT.mk (h + 1) x (L1 ++ q :: L2)) :: m) k) : Has (opn1 h x L1 q L2 m) k := by
  have K1 := Has.openM (h := h + 1) K
  have K2 : Has (nodeL x ((L1 ++ q :: L2).map fun k => (LT.nd h k).p) ++ (sepL ((L1 ++ q :: L2).map (treeA h)) :: m)) k := K1
  exact Has.cons_imp (fun _ K => Has.cons_imp (fun _ K => Has.cons_imp (fun _ K => Has.cons_imp (fun _ K => Has.kidM K) K) K) K) K2
theorem Has.shut1 {h : Nat} {x : Nd} {L1 L2 : List (LT h)} {q : LT h} {m : List Assn} {k : Piece} (K : Has (opn1 h x L1 q L2 m) k) : Has (treeA (h + 1) (LT.mk (h + 1) x (L1 ++ q :: L2)) :: m) k := by
  have e : (L1 ++ q :: L2).map (fun k => (LT.nd h k).p) = L1.map (fun k => (LT.nd h k).p) ++ (LT.nd h q).p :: L2.map (fun k => (LT.nd h k).p) := by simp
  have K1 := K
  unfold opn1 at K1
  rw [e] at K1
  have K2 := Has.close1 (y := LT.nd h q) (ksa := LT.ksL h q) K1
  rw [LT.eta] at K2
  exact K2
theorem Has.shut2 {h : Nat} {x : Nd} {M1 M2 : List (LT h)} {a b : LT h} {m : List Assn} {k : Piece} (K : Has (opn2 h x M1 a b M2 m) k) : Has (treeA (h + 1) (LT.mk (h + 1) x (M1 ++ a :: b :: M2)) :: m) k := by
  have e : (M1 ++ a :: b :: M2).map (fun k => (LT.nd h k).p) = M1.map (fun k => (LT.nd h k).p) ++ (LT.nd h a).p :: (LT.nd h b).p :: M2.map (fun k => (LT.nd h k).p) := by simp
  have K1 := K
  unfold opn2 at K1
  rw [e] at K1
  have K2 := Has.close2 (y := LT.nd h a) (z := LT.nd h b) (ksa := LT.ksL h a) (ksb := LT.ksL h b) K1
  rw [LT.eta, LT.eta] at K2
  exact K2
abbrev xB (x : Nd) (bk bv bc n : Nat) : Assn := blk x.p [.slice (some ⟨bk, 0, none⟩) x.kv.length x.kc, .slice (some ⟨bv, 0, none⟩) x.kv.length x.vc, .slice (some ⟨bc, 0, none⟩) n x.cc] 98
abbrev xK (x : Nd) (bk : Nat) : Assn := row (.slice (some ⟨bk, 0, none⟩) x.kv.length x.kc) 9 1 x.kv.length (x.ks.map kT)
abbrev xV (x : Nd) (bv : Nat) : Assn := row (.slice (some ⟨bv, 0, none⟩) x.kv.length x.vc) 2 1 x.kv.length (x.vs.map iV)
abbrev opx1 (h : Nat) (x : Nd) (bk bv bc : Nat) (L1 : List (LT h)) (q : LT h) (L2 : List (LT h)) (m : List Assn) : List Assn :=
  ndX x bk bv bc ((L1 ++ q :: L2).map fun k => (LT.nd h k).p) (
  ndB (LT.nd h q) ((LT.ksL h q).map fun k => (LK.nd h k).p).length :: ndK (LT.nd h q) :: ndV (LT.nd h q) :: ndC (LT.nd h q) ((LT.ksL h q).map fun k => (LK.nd h k).p) ::
  sepL ((LT.ksL h q).map (LK.a h)) :: sepL (L1.map (treeA h)) :: sepL (L2.map (treeA h)) :: m)
abbrev opx2 (h : Nat) (x : Nd) (bk bv bc : Nat) (M1 : List (LT h)) (a b : LT h) (M2 : List (LT h)) (m : List Assn) : List Assn :=
  ndX x bk bv bc ((M1 ++ a :: b :: M2).map fun k => (LT.nd h k).p) (
  ndB (LT.nd h a) ((LT.ksL h a).map fun k => (LK.nd h k).p).length :: ndK (LT.nd h a) :: ndV (LT.nd h a) :: ndC (LT.nd h a) ((LT.ksL h a).map fun k => (LK.nd h k).p) ::
  ndB (LT.nd h b) ((LT.ksL h b).map fun k => (LK.nd h k).p).length :: ndK (LT.nd h b) :: ndV (LT.nd h b) :: ndC (LT.nd h b) ((LT.ksL h b).map fun k => (LK.nd h k).p) ::
  sepL ((LT.ksL h a).map (LK.a h)) :: sepL ((LT.ksL h b).map (LK.a h)) :: sepL (M1.map (treeA h)) :: sepL (M2.map (treeA h)) :: m)
section
variable {h bk bv bc : Nat} {x : Nd} {L1 L2 : List (LT h)} {q a b : LT h} {m : List Assn} {k : Piece} (hka : x.ka = some ⟨bk, 0, none⟩) (hva : x.va = some ⟨bv, 0, none⟩) (hca : x.ca = some ⟨bc, 0, none⟩)
include hka hva hca
theorem Has.openx1 (K : Has (treeA (h + 1) (LT.mk (h + 1) x (L1 ++ q :: L2)) :: m) k) : Has (opx1 h x bk bv bc L1 q L2 m) k := by
  have K1 := Has.open1 K
  unfold opn1 at K1
  rw [ndX_eq hka hva hca] at K1
  exact K1
theorem Has.openx2 (K : Has (treeA (h + 1) (LT.mk (h + 1) x (L1 ++ a :: b :: L2)) :: m) k) : Has (opx2 h x bk bv bc L1 a b L2 m) k := by
  have K1 := Has.open2 K
  unfold opn2 at K1
  rw [ndX_eq hka hva hca] at K1
  exact K1
theorem Has.shutx1 (K : Has (opx1 h x bk bv bc L1 q L2 m) k) : Has (treeA (h + 1) (LT.mk (h + 1) x (L1 ++ q :: L2)) :: m) k := by
  refine Has.shut1 ?_
  unfold opn1
  rw [ndX_eq hka hva hca]
  exact K
theorem Has.shutx2 (K : Has (opx2 h x bk bv bc L1 a b L2 m) k) : Has (treeA (h + 1) (LT.mk (h + 1) x (L1 ++ a :: b :: L2)) :: m) k := by
  refine Has.shut2 ?_
  unfold opn2
  rw [ndX_eq hka hva hca]
  exact K
end
theorem Bt.leafR (B : Base) (p : Nat) (u v : Value) (a : Option Addr) (m c : Nat) : Fn Try.prog B 45 #[pV p] [blk p [u, v, .slice a m c] 98] (fun u' l => u' = .bool (decide ((m : Int) = 0)) ∧ l = [blk p [u, v, .slice a m c] 98]) := by
  refine Fn.enter1 9 Try.func45 rfl rfl (Nat.le_of_ble_eq_true rfl) (fun F => ?_)
  try simp only [List.cons_append, List.nil_append]
  refine T.seq ?_
  refine T.region ?_
  refine LW.q rfl (Qt.assign rfl) ?_
  refine LW.done ?_
  refine T.seq ?_
  refine T.region ?_
  refine LW.q rfl (Qt.move rfl) ?_
  refine LW.q rfl (Qt.nilCheck rfl) ?_
  refine LW.q rfl (Qt.fieldAddr (off := 2) (by kernel_rfl) rfl) ?_
  first | refine LW.q rfl (Qt.load (by kernel_rfl) rfl rfl) ?_ | refine LW.q rfl (Qt.load (by kernel_rfl) rfl (map_at _ _ _ (by omega))) ?_ | refine LW.q rfl (Qt.load (by kernel_rfl) rfl (flat_cell0 _ _ _ (by intros; rfl) _ (by omega) (by rfl))) ?_ | refine LW.q rfl (Qt.load (by kernel_rfl) rfl (flat_cell _ _ _ (by intros; rfl) _ _ (by omega) (by rfl))) ?_ | refine LW.q rfl (Qt.load (by kernel_rfl) rfl (bytes_at _ _ (by omega))) ?_
  refine LW.q rfl (Qt.len (e := 95) (sz := 1) (by kernel_rfl) rfl) ?_
  refine LW.q rfl (Qt.eql rfl rfl) ?_
  refine LW.q rfl (Qt.assign rfl) ?_
  refine LW.done ?_
  refine T.ret ?_
  exact ⟨.inl rfl, _, _, res [_] rfl ⟨rvT rfl, trivial⟩, ⟨rfl, rfl⟩, Sub.any⟩
set_option maxHeartbeats 8000000 in
set_option maxRecDepth 100000 in
theorem Bt.fill0 (B : Base) (g o r cnt h bk bv bc : Nat) (x : Nd) (L1 L2 : List (LT h)) (q : LT h) (ho : 2 ≤ o) (ho2 : o ≤ 64) (hka : x.ka = some ⟨bk, 0, none⟩) (hva : x.va = some ⟨bv, 0, none⟩) (hca : x.ca = some ⟨bc, 0, none⟩) (hok : okN o 1 (h + 1) (LT.mk (h + 1) x (L1 ++ q :: L2))) :
  Fn Try.prog B 79 #[pV g, pV x.p, .int .i64 L1.length] [trB g o r cnt, treeA (h + 1) (LT.mk (h + 1) x (L1 ++ q :: L2))] (fillR g o r cnt h x L1 q L2) := by
 have hk := okK.1 hok
 have hkq := okN_false.1 (hk.2.2.2 q (by simp))
 have hkl := hk.2.2.1
 have hll : L1.length + L2.length = x.kv.length := by simp at hkl; omega
 have hkm : x.kv.length ≤ 2 * o - 1 := hk.1
 have hk1 : 1 ≤ x.kv.length := hk.2.1
 refine Fn.enter3 324 Try.func79 rfl rfl (Nat.le_of_ble_eq_true rfl) (fun F => ?_)
 try simp only [List.cons_append, List.nil_append]
 refine T.conv (l' := opx1 h x bk bv bc L1 q L2 (trB g o r cnt :: F)) (fun w ho => ho.map fun k K => Has.openx1 hka hva hca (Has.swap K)) ?_
 simp only [opx1, opx2, ndX]
 refine T.seq ?_
 refine T.region ?_
 refine LW.q rfl (Qt.assign rfl) ?_
 refine LW.done ?_
 refine T.seq ?_
 refine T.region ?_
 refine LW.q rfl (Qt.move rfl) ?_
 refine LW.q rfl (Qt.nilCheck rfl) ?_
 refine LW.q rfl (Qt.fieldAddr (off := 2) (by kernel_rfl) rfl) ?_
 first | refine LW.q rfl (Qt.load (by kernel_rfl) rfl rfl) ?_ | refine LW.q rfl (Qt.load (by kernel_rfl) rfl (map_at _ _ _ (by omega))) ?_ | refine LW.q rfl (Qt.load (by kernel_rfl) rfl (flat_cell0 _ _ _ (by intros; rfl) _ (by omega) (by rfl))) ?_ | refine LW.q rfl (Qt.load (by kernel_rfl) rfl (flat_cell _ _ _ (by intros; rfl) _ _ (by omega) (by rfl))) ?_ | refine LW.q rfl (Qt.load (by kernel_rfl) rfl (bytes_at _ _ (by omega))) ?_
 refine LW.q rfl (Qt.move rfl) ?_
 refine LW.q rfl (Qt.index L1.length (e := 95) (sz := 1) (by kernel_rfl) rfl rfl rfl (by simp)) ?_
 refine LW.q rfl (Qt.load (v := pV (LT.nd h q).p) (by kernel_rfl) rfl (by simp)) ?_
 refine LW.q rfl (Qt.assign rfl) ?_
 refine LW.done ?_
 refine T.cut (fun fz lz => ∃ (f0 : Fr) (n : Nat), ((LT.nd h q).kv.length = o - 1) ∧ fz = (upd (upd (upd (upd f0 0 (pV g)) 1 (pV x.p)) 2 (.int .i64 L1.length)) 7 (pV (LT.nd h q).p)) ∧ lz = trB g o r cnt :: treeA (h + 1) (LT.mk (h + 1) x (L1 ++ q :: L2)) :: F) ?_ ?_
 ·
  refine T.seq ?_
  refine T.drawBl 11 none (by kernel_rfl) (Nat.le_of_ble_eq_true rfl) (by kernel_rfl) ?_
  refine RW.q 0 rfl rfl (by kernel_rfl) Sub.any (Qt.move rfl) ?_
  refine RW.q 1 rfl rfl (by kernel_rfl) Sub.any (Qt.nilCheck rfl) ?_
  refine RW.q 2 rfl rfl (by kernel_rfl) Sub.any (Qt.fieldAddr0 (by kernel_rfl) rfl) ?_
  first | refine RW.q 3 rfl rfl (by kernel_rfl) Sub.any (Qt.load (by kernel_rfl) rfl rfl) ?_ | refine RW.q 3 rfl rfl (by kernel_rfl) Sub.any (Qt.load (by kernel_rfl) rfl (map_at _ _ _ (by omega))) ?_ | refine RW.q 3 rfl rfl (by kernel_rfl) Sub.any (Qt.load (by kernel_rfl) rfl (flat_cell0 _ _ _ (by intros; rfl) _ (by omega) (by rfl))) ?_ | refine RW.q 3 rfl rfl (by kernel_rfl) Sub.any (Qt.load (by kernel_rfl) rfl (flat_cell _ _ _ (by intros; rfl) _ _ (by omega) (by rfl))) ?_ | refine RW.q 3 rfl rfl (by kernel_rfl) Sub.any (Qt.load (by kernel_rfl) rfl (bytes_at _ _ (by omega))) ?_
  refine RW.q 4 rfl rfl (by kernel_rfl) Sub.any (Qt.len (e := 9) (sz := 1) (by kernel_rfl) rfl) ?_
  refine RW.q 5 rfl rfl (by kernel_rfl) Sub.any (Qt.move rfl) ?_
  refine RW.q 6 rfl rfl (by kernel_rfl) Sub.any (Qt.nilCheck rfl) ?_
  refine RW.q 7 rfl rfl (by kernel_rfl) Sub.any (Qt.fieldAddr0 (by kernel_rfl) rfl) ?_
  first | refine RW.q 8 rfl rfl (by kernel_rfl) Sub.any (Qt.loadAgg [_] (by kernel_rfl) rfl ⟨rfl, trivial⟩) ?_ | refine RW.q 8 rfl rfl (by kernel_rfl) Sub.any (Qt.loadAgg [_] (by kernel_rfl) rfl (by exact rdl_flat _ _ _ (by intros; rfl) _ (by omega))) ?_
  refine RW.one 9 (by kernel_rfl) ?_
  refine RO.eS rfl rfl (Ef.call (Bt.least B o (by omega)) Try.func80 rfl rfl rfl ?_)
  rintro _ _ ⟨rfl, rfl⟩
  try simp only [List.cons_append, List.nil_append]
  refine ⟨Sub.any, ?_⟩
  refine RW.q 10 rfl rfl (by kernel_rfl) Sub.any (Qt.gtr rfl rfl) ?_
  refine RW.done (by rfl) ?_
  simp only [List.drop_succ_cons, List.drop_zero, List.drop_nil]
  refine LW.done ?_
  refine T.condP rfl (fun hbig => ?_) (fun hbig => ?_)
  ·
   refine T.seq ?_
   refine T.region ?_
   refine LW.q rfl (Qt.move rfl) ?_
   refine LW.q rfl (Qt.assign rfl) ?_
   refine LW.done ?_
   refine T.ret ?_
   exact ⟨.inl rfl, _, _, res [_] rfl ⟨rvT rfl, trivial⟩, fill_same hok (by omega), (fun k K => Has.swap (Has.shutx1 hka hva hca (m := trB g o r cnt :: F) (Sub.any k K)))⟩
  ·
   refine T.skip ?_
   exact ⟨_, ⟨_, 0, by have := hkq.2.1; omega, (updS rfl (updS rfl (updS rfl (updS rfl rfl)))), rfl⟩, fun k K => Has.swap (Has.shutx1 hka hva hca (m := trB g o r cnt :: F) (Sub.any k K))⟩
 rintro fz lz ⟨f0, n, hqe, rfl, rfl⟩
 try simp only [List.cons_append, List.nil_append]
 refine T.cut (fun fz lz => ∃ (f0 : Fr) (n : Nat), (∀ M1 lq, L1 = M1 ++ [lq] → (LT.nd h lq).kv.length = o - 1) ∧ fz = (upd (upd (upd (upd f0 0 (pV g)) 1 (pV x.p)) 2 (.int .i64 L1.length)) 7 (pV (LT.nd h q).p)) ∧ lz = trB g o r cnt :: treeA (h + 1) (LT.mk (h + 1) x (L1 ++ q :: L2)) :: F) ?_ ?_
 ·
  by_cases hL1 : L1 = []
  ·
   refine T.seq ?_
   refine T.drawBl 22 none (by kernel_rfl) (Nat.le_of_ble_eq_true rfl) (by kernel_rfl) ?_
   refine RW.q 0 rfl rfl (by kernel_rfl) Sub.any (Qt.move rfl) ?_
   refine RW.q 1 rfl rfl (by kernel_rfl) Sub.any (Qt.gtr rfl rfl) ?_
   refine RW.q 2 rfl rfl (by kernel_rfl) Sub.any (Qt.move rfl) ?_
   first | refine RW.gF (t := 32) rfl rfl ?_ | refine RW.gF (t := 32) rfl (decide_eq_false ((by rw [hL1]; simp))) ?_ | refine RW.gF (t := 32) rfl ((by rw [hL1]; simp)) ?_
   refine RW.s 3 rfl rfl (by kernel_rfl) Sub.any ?_
   refine RW.s 4 rfl rfl (by kernel_rfl) Sub.any ?_
   refine RW.s 5 rfl rfl (by kernel_rfl) Sub.any ?_
   refine RW.s 6 rfl rfl (by kernel_rfl) Sub.any ?_
   refine RW.s 7 rfl rfl (by kernel_rfl) Sub.any ?_
   refine RW.s 8 rfl rfl (by kernel_rfl) Sub.any ?_
   refine RW.s 9 rfl rfl (by kernel_rfl) Sub.any ?_
   refine RW.s 10 rfl rfl (by kernel_rfl) Sub.any ?_
   refine RW.s 11 rfl rfl (by kernel_rfl) Sub.any ?_
   refine RW.s 12 rfl rfl (by kernel_rfl) Sub.any ?_
   refine RW.s 13 rfl rfl (by kernel_rfl) Sub.any ?_
   refine RW.s 14 rfl rfl (by kernel_rfl) Sub.any ?_
   refine RW.s 15 rfl rfl (by kernel_rfl) Sub.any ?_
   refine RW.s 16 rfl rfl (by kernel_rfl) Sub.any ?_
   refine RW.s 17 rfl rfl (by kernel_rfl) Sub.any ?_
   refine RW.s 18 rfl rfl (by kernel_rfl) Sub.any ?_
   refine RW.s 19 rfl rfl (by kernel_rfl) Sub.any ?_
   refine RW.s 20 rfl rfl (by kernel_rfl) Sub.any ?_
   refine RW.q 21 rfl rfl (by kernel_rfl) Sub.any (Qt.pick rfl rfl) ?_
   refine RW.done (by rfl) ?_
   simp only [List.drop_succ_cons, List.drop_zero, List.drop_nil]
   refine LW.done ?_
   first | refine T.condF rfl ?_ | refine T.condPF rfl (by omega) ?_ | refine T.condBF rfl (by omega) ?_
   refine T.skip ?_
   exact ⟨_, ⟨_, 0, fun M1 lq e => by rw [hL1] at e; simp at e, (updS rfl (updS rfl (updS rfl (updS rfl rfl)))), rfl⟩, Sub.any⟩
  ·
   obtain ⟨M1, lq, rfl⟩ : ∃ M1 lq, L1 = M1 ++ [lq] := ⟨_, _, (List.dropLast_concat_getLast hL1).symm⟩
   have hklq := okN_false.1 (hk.2.2.2 lq (by simp))
   have eL : (M1 ++ [lq]) ++ q :: L2 = M1 ++ lq :: q :: L2 := by simp
   refine T.conv (l' := opx2 h x bk bv bc M1 lq q L2 (trB g o r cnt :: F)) (fun w ho => ho.map fun k K => Has.openx2 hka hva hca (by rw [eL] at K; exact Has.swap K)) ?_
   simp only [opx1, opx2, ndX]
   refine T.own fun w0 ho0 => ?_
   have hpk := (ho0.slice_at (p := (LT.nd h lq).ka) (m := (LT.nd h lq).kv.length) (c := (LT.nd h lq).kc) (k := (LT.nd h lq).kv.length)).2.1
   have hpv := (ho0.slice_at (p := (LT.nd h lq).va) (m := (LT.nd h lq).kv.length) (c := (LT.nd h lq).vc) (k := (LT.nd h lq).kv.length)).2.1
   have hpc := (ho0.slice_at (p := (LT.nd h lq).ca) (m := ((LT.ksL h lq).map fun k => (LK.nd h k).p).length) (c := (LT.nd h lq).cc) (k := ((LT.ksL h lq).map fun k => (LK.nd h k).p).length)).2.1
   have hlkc : (LT.nd h lq).kv.length ≤ (LT.nd h lq).kc := ho0.cap_at (p := (LT.nd h lq).ka) (m := (LT.nd h lq).kv.length) (c := (LT.nd h lq).kc) (k := (LT.nd h lq).kv.length)
   have hlvc : (LT.nd h lq).kv.length ≤ (LT.nd h lq).vc := ho0.cap_at (p := (LT.nd h lq).va) (m := (LT.nd h lq).kv.length) (c := (LT.nd h lq).vc) (k := (LT.nd h lq).kv.length)
   have hlcc : ((LT.ksL h lq).map fun k => (LK.nd h k).p).length ≤ (LT.nd h lq).cc := ho0.cap_at (p := (LT.nd h lq).ca) (m := ((LT.ksL h lq).map fun k => (LK.nd h k).p).length) (c := (LT.nd h lq).cc) (k := ((LT.ksL h lq).map fun k => (LK.nd h k).p).length)
   clear ho0
   refine T.seq ?_
   refine T.drawAll 22 (by kernel_rfl) (Nat.le_of_ble_eq_true rfl) (by kernel_rfl) ?_
   refine RW.q 0 rfl rfl (by kernel_rfl) (Sub.refl _) (Qt.move rfl) ?_
   refine RW.q 1 rfl rfl (by kernel_rfl) (Sub.refl _) (Qt.gtr rfl rfl) ?_
   refine RW.q 2 rfl rfl (by kernel_rfl) (Sub.refl _) (Qt.move rfl) ?_
   first | refine RW.gT (t := 32) rfl rfl ?_ | refine RW.gT (t := 32) rfl (decide_eq_true ((by simp))) ?_ | refine RW.gT (t := 32) rfl ((by simp)) ?_
   refine RW.q 3 rfl rfl (by kernel_rfl) (Sub.refl _) (Qt.move rfl) ?_
   refine RW.q 4 rfl rfl (by kernel_rfl) (Sub.refl _) (Qt.nilCheck rfl) ?_
   refine RW.q 5 rfl rfl (by kernel_rfl) (Sub.refl _) (Qt.fieldAddr (off := 2) (by kernel_rfl) rfl) ?_
   first | refine RW.q 6 rfl rfl (by kernel_rfl) (Sub.refl _) (Qt.load (by kernel_rfl) rfl rfl) ?_ | refine RW.q 6 rfl rfl (by kernel_rfl) (Sub.refl _) (Qt.load (by kernel_rfl) rfl (map_at _ _ _ (by omega))) ?_ | refine RW.q 6 rfl rfl (by kernel_rfl) (Sub.refl _) (Qt.load (by kernel_rfl) rfl (flat_cell0 _ _ _ (by intros; rfl) _ (by omega) (by rfl))) ?_ | refine RW.q 6 rfl rfl (by kernel_rfl) (Sub.refl _) (Qt.load (by kernel_rfl) rfl (flat_cell _ _ _ (by intros; rfl) _ _ (by omega) (by rfl))) ?_ | refine RW.q 6 rfl rfl (by kernel_rfl) (Sub.refl _) (Qt.load (by kernel_rfl) rfl (bytes_at _ _ (by omega))) ?_
   refine RW.q 7 rfl rfl (by kernel_rfl) (Sub.refl _) (Qt.move rfl) ?_
   refine RW.q 8 rfl rfl (by kernel_rfl) (Sub.refl _) (Qt.sub (r := (M1.length : Int)) rfl rfl (by rw [wr64 (by simp only [List.length_append, List.length_singleton]; omega) (by simp only [List.length_append, List.length_singleton] at hll ⊢; omega)]; simp)) ?_
   refine RW.q 9 rfl rfl (by kernel_rfl) (Sub.refl _) (Qt.index M1.length (e := 95) (sz := 1) (by kernel_rfl) rfl rfl rfl (by simp)) ?_
   refine RW.q 10 rfl rfl (by kernel_rfl) (Sub.refl _) (Qt.load (v := pV (LT.nd h lq).p) (by kernel_rfl) rfl (by simp)) ?_
   refine RW.q 11 rfl rfl (by kernel_rfl) (Sub.refl _) (Qt.nilCheck rfl) ?_
   refine RW.q 12 rfl rfl (by kernel_rfl) (Sub.refl _) (Qt.fieldAddr0 (by kernel_rfl) rfl) ?_
   first | refine RW.q 13 rfl rfl (by kernel_rfl) (Sub.refl _) (Qt.load (by kernel_rfl) rfl rfl) ?_ | refine RW.q 13 rfl rfl (by kernel_rfl) (Sub.refl _) (Qt.load (by kernel_rfl) rfl (map_at _ _ _ (by omega))) ?_ | refine RW.q 13 rfl rfl (by kernel_rfl) (Sub.refl _) (Qt.load (by kernel_rfl) rfl (flat_cell0 _ _ _ (by intros; rfl) _ (by omega) (by rfl))) ?_ | refine RW.q 13 rfl rfl (by kernel_rfl) (Sub.refl _) (Qt.load (by kernel_rfl) rfl (flat_cell _ _ _ (by intros; rfl) _ _ (by omega) (by rfl))) ?_ | refine RW.q 13 rfl rfl (by kernel_rfl) (Sub.refl _) (Qt.load (by kernel_rfl) rfl (bytes_at _ _ (by omega))) ?_
   refine RW.q 14 rfl rfl (by kernel_rfl) (Sub.refl _) (Qt.len (e := 9) (sz := 1) (by kernel_rfl) rfl) ?_
   refine RW.q 15 rfl rfl (by kernel_rfl) (Sub.refl _) (Qt.move rfl) ?_
   refine RW.q 16 rfl rfl (by kernel_rfl) (Sub.refl _) (Qt.nilCheck rfl) ?_
   refine RW.q 17 rfl rfl (by kernel_rfl) (Sub.refl _) (Qt.fieldAddr0 (by kernel_rfl) rfl) ?_
   first | refine RW.q 18 rfl rfl (by kernel_rfl) (Sub.refl _) (Qt.loadAgg [_] (by kernel_rfl) rfl ⟨rfl, trivial⟩) ?_ | refine RW.q 18 rfl rfl (by kernel_rfl) (Sub.refl _) (Qt.loadAgg [_] (by kernel_rfl) rfl (by exact rdl_flat _ _ _ (by intros; rfl) _ (by omega))) ?_
   refine RW.one 19 (by kernel_rfl) ?_
   refine RO.e rfl rfl (Ef.call (Bt.least B o (by omega)) Try.func80 rfl rfl rfl ?_)
   rintro _ _ ⟨rfl, rfl⟩
   try simp only [List.cons_append, List.nil_append]
   refine ⟨Sub.any, ?_⟩
   refine RW.q 20 rfl rfl (by kernel_rfl) (Sub.refl _) (Qt.gtr rfl rfl) ?_
   refine RW.q 21 rfl rfl (by kernel_rfl) (Sub.refl _) (Qt.pick rfl rfl) ?_
   refine RW.done (by rfl) ?_
   simp only [List.drop_succ_cons, List.drop_zero, List.drop_nil]
   refine LW.done ?_
   refine T.condP rfl (fun hlb => ?_) (fun hlb => ?_)
   ·
    have hlq0 : (LT.nd h lq).kv.length ≤ 2 * o - 1 := hklq.1
    obtain ⟨av, e, hae⟩ : ∃ av e, (LT.nd h lq).kv = av ++ [e] := ⟨_, _, (List.dropLast_concat_getLast (by intro e; rw [e] at hlb; simp at hlb; omega)).symm⟩
    have hla : (LT.nd h lq).kv.length = av.length + 1 := by rw [hae]; simp
    obtain ⟨sk, hs⟩ : ∃ sk, x.kv[M1.length]? = some sk := ⟨_, List.getElem?_eq_getElem (by simp only [List.length_append, List.length_singleton] at hll; omega)⟩
    have hml : M1.length < x.kv.length := by simp only [List.length_append, List.length_singleton] at hll; omega
    obtain ⟨bl, ol, hlka, hcl⟩ := (RdV.ks (B := B) hpk).at (by omega)
    obtain ⟨bw, ow, hlva, hcw⟩ := (RdV.vs (B := B) hpv).at (by omega)
    refine T.seq ?_
    refine T.region ?_
    refine LW.q rfl (Qt.move rfl) ?_
    refine LW.q rfl (Qt.nilCheck rfl) ?_
    refine LW.q rfl (Qt.fieldAddr (off := 2) (by kernel_rfl) rfl) ?_
    first | refine LW.q rfl (Qt.load (by kernel_rfl) rfl rfl) ?_ | refine LW.q rfl (Qt.load (by kernel_rfl) rfl (map_at _ _ _ (by omega))) ?_ | refine LW.q rfl (Qt.load (by kernel_rfl) rfl (flat_cell0 _ _ _ (by intros; rfl) _ (by omega) (by rfl))) ?_ | refine LW.q rfl (Qt.load (by kernel_rfl) rfl (flat_cell _ _ _ (by intros; rfl) _ _ (by omega) (by rfl))) ?_ | refine LW.q rfl (Qt.load (by kernel_rfl) rfl (bytes_at _ _ (by omega))) ?_
    refine LW.q rfl (Qt.move rfl) ?_
    refine LW.q rfl (Qt.sub (r := (M1.length : Int)) rfl rfl (by rw [wr64 (by simp only [List.length_append, List.length_singleton]; omega) (by simp only [List.length_append, List.length_singleton] at hll ⊢; omega)]; simp)) ?_
    refine LW.q rfl (Qt.index M1.length (e := 95) (sz := 1) (by kernel_rfl) rfl rfl rfl (by simp)) ?_
    refine LW.q rfl (Qt.load (v := pV (LT.nd h lq).p) (by kernel_rfl) rfl (by simp)) ?_
    refine LW.q rfl (Qt.assign rfl) ?_
    refine LW.done ?_
    refine T.seq ?_
    refine T.region ?_
    refine LW.q rfl (Qt.move rfl) ?_
    refine LW.q rfl (Qt.nilCheck rfl) ?_
    refine LW.q rfl (Qt.fieldAddr0 (by kernel_rfl) rfl) ?_
    first | refine LW.q rfl (Qt.load (by kernel_rfl) rfl rfl) ?_ | refine LW.q rfl (Qt.load (by kernel_rfl) rfl (map_at _ _ _ (by omega))) ?_ | refine LW.q rfl (Qt.load (by kernel_rfl) rfl (flat_cell0 _ _ _ (by intros; rfl) _ (by omega) (by rfl))) ?_ | refine LW.q rfl (Qt.load (by kernel_rfl) rfl (flat_cell _ _ _ (by intros; rfl) _ _ (by omega) (by rfl))) ?_ | refine LW.q rfl (Qt.load (by kernel_rfl) rfl (bytes_at _ _ (by omega))) ?_
    refine LW.q rfl (Qt.len (e := 9) (sz := 1) (by kernel_rfl) rfl) ?_
    refine LW.q rfl (Qt.sub (r := (av.length : Int)) rfl rfl (by rw [wr64 (by omega) (by omega)]; omega)) ?_
    refine LW.q rfl (Qt.assign rfl) ?_
    refine LW.done ?_
    refine T.seq ?_
    refine T.draw 33 ([ndB (LT.nd h q) ((LT.ksL h q).map fun k => (LK.nd h k).p).length, xB x bk bv bc ((M1 ++ lq :: q :: L2).map fun k => (LT.nd h k).p).length, xK x bk, xV x bv]) (by kernel_rfl) (Nat.le_of_ble_eq_true rfl) (by kernel_rfl) ?_
    refine RW.q 0 rfl rfl (by kernel_rfl) Sub.any (Qt.move rfl) ?_
    refine RW.q 1 rfl rfl (by kernel_rfl) Sub.any (Qt.move rfl) ?_
    refine RW.q 2 rfl rfl (by kernel_rfl) Sub.any (Qt.move rfl) ?_
    refine RW.q 3 rfl rfl (by kernel_rfl) Sub.any (Qt.nilCheck rfl) ?_
    refine RW.q 4 rfl rfl (by kernel_rfl) Sub.any (Qt.fieldAddr0 (by kernel_rfl) rfl) ?_
    first | refine RW.q 5 rfl rfl (by kernel_rfl) Sub.any (Qt.load (by kernel_rfl) rfl rfl) ?_ | refine RW.q 5 rfl rfl (by kernel_rfl) Sub.any (Qt.load (by kernel_rfl) rfl (map_at _ _ _ (by omega))) ?_ | refine RW.q 5 rfl rfl (by kernel_rfl) Sub.any (Qt.load (by kernel_rfl) rfl (flat_cell0 _ _ _ (by intros; rfl) _ (by omega) (by rfl))) ?_ | refine RW.q 5 rfl rfl (by kernel_rfl) Sub.any (Qt.load (by kernel_rfl) rfl (flat_cell _ _ _ (by intros; rfl) _ _ (by omega) (by rfl))) ?_ | refine RW.q 5 rfl rfl (by kernel_rfl) Sub.any (Qt.load (by kernel_rfl) rfl (bytes_at _ _ (by omega))) ?_
    refine RW.q 6 rfl rfl (by kernel_rfl) Sub.any (Qt.move rfl) ?_
    refine RW.q 7 rfl rfl (by kernel_rfl) Sub.any (Qt.nilCheck rfl) ?_
    refine RW.q 8 rfl rfl (by kernel_rfl) Sub.any (Qt.fieldAddr0 (by kernel_rfl) rfl) ?_
    first | refine RW.q 9 rfl rfl (by kernel_rfl) Sub.any (Qt.load (by kernel_rfl) rfl rfl) ?_ | refine RW.q 9 rfl rfl (by kernel_rfl) Sub.any (Qt.load (by kernel_rfl) rfl (map_at _ _ _ (by omega))) ?_ | refine RW.q 9 rfl rfl (by kernel_rfl) Sub.any (Qt.load (by kernel_rfl) rfl (flat_cell0 _ _ _ (by intros; rfl) _ (by omega) (by rfl))) ?_ | refine RW.q 9 rfl rfl (by kernel_rfl) Sub.any (Qt.load (by kernel_rfl) rfl (flat_cell _ _ _ (by intros; rfl) _ _ (by omega) (by rfl))) ?_ | refine RW.q 9 rfl rfl (by kernel_rfl) Sub.any (Qt.load (by kernel_rfl) rfl (bytes_at _ _ (by omega))) ?_
    refine RW.q 10 rfl rfl (by kernel_rfl) Sub.any (Qt.move rfl) ?_
    refine RW.q 11 rfl rfl (by kernel_rfl) Sub.any (Qt.sub (r := (M1.length : Int)) rfl rfl (by rw [wr64 (by simp only [List.length_append, List.length_singleton]; omega) (by simp only [List.length_append, List.length_singleton] at hll ⊢; omega)]; simp)) ?_
    refine RW.q 12 rfl rfl (by kernel_rfl) Sub.any (Qt.index M1.length (e := 9) (sz := 1) (by kernel_rfl) rfl rfl rfl hml) ?_
    refine RW.q 13 rfl rfl (by kernel_rfl) Sub.any (Qt.load (v := kT sk.1) (by kernel_rfl) rfl (by simp [hs])) ?_
    refine RW.q 16 rfl rfl (by kernel_rfl) Sub.any (Qt.move rfl) ?_
    refine RW.q 17 rfl rfl (by kernel_rfl) Sub.any (Qt.nilCheck rfl) ?_
    refine RW.q 18 rfl rfl (by kernel_rfl) Sub.any (Qt.fieldAddr (off := 1) (by kernel_rfl) rfl) ?_
    first | refine RW.q 19 rfl rfl (by kernel_rfl) Sub.any (Qt.load (by kernel_rfl) rfl rfl) ?_ | refine RW.q 19 rfl rfl (by kernel_rfl) Sub.any (Qt.load (by kernel_rfl) rfl (map_at _ _ _ (by omega))) ?_ | refine RW.q 19 rfl rfl (by kernel_rfl) Sub.any (Qt.load (by kernel_rfl) rfl (flat_cell0 _ _ _ (by intros; rfl) _ (by omega) (by rfl))) ?_ | refine RW.q 19 rfl rfl (by kernel_rfl) Sub.any (Qt.load (by kernel_rfl) rfl (flat_cell _ _ _ (by intros; rfl) _ _ (by omega) (by rfl))) ?_ | refine RW.q 19 rfl rfl (by kernel_rfl) Sub.any (Qt.load (by kernel_rfl) rfl (bytes_at _ _ (by omega))) ?_
    refine RW.q 20 rfl rfl (by kernel_rfl) Sub.any (Qt.move rfl) ?_
    refine RW.q 21 rfl rfl (by kernel_rfl) Sub.any (Qt.nilCheck rfl) ?_
    refine RW.q 22 rfl rfl (by kernel_rfl) Sub.any (Qt.fieldAddr (off := 1) (by kernel_rfl) rfl) ?_
    first | refine RW.q 23 rfl rfl (by kernel_rfl) Sub.any (Qt.load (by kernel_rfl) rfl rfl) ?_ | refine RW.q 23 rfl rfl (by kernel_rfl) Sub.any (Qt.load (by kernel_rfl) rfl (map_at _ _ _ (by omega))) ?_ | refine RW.q 23 rfl rfl (by kernel_rfl) Sub.any (Qt.load (by kernel_rfl) rfl (flat_cell0 _ _ _ (by intros; rfl) _ (by omega) (by rfl))) ?_ | refine RW.q 23 rfl rfl (by kernel_rfl) Sub.any (Qt.load (by kernel_rfl) rfl (flat_cell _ _ _ (by intros; rfl) _ _ (by omega) (by rfl))) ?_ | refine RW.q 23 rfl rfl (by kernel_rfl) Sub.any (Qt.load (by kernel_rfl) rfl (bytes_at _ _ (by omega))) ?_
    refine RW.q 24 rfl rfl (by kernel_rfl) Sub.any (Qt.move rfl) ?_
    refine RW.q 25 rfl rfl (by kernel_rfl) Sub.any (Qt.sub (r := (M1.length : Int)) rfl rfl (by rw [wr64 (by simp only [List.length_append, List.length_singleton]; omega) (by simp only [List.length_append, List.length_singleton] at hll ⊢; omega)]; simp)) ?_
    refine RW.q 26 rfl rfl (by kernel_rfl) Sub.any (Qt.index M1.length (e := 2) (sz := 1) (by kernel_rfl) rfl rfl rfl hml) ?_
    refine RW.q 27 rfl rfl (by kernel_rfl) Sub.any (Qt.load (v := iV sk.2) (by kernel_rfl) rfl (by simp [hs])) ?_
    refine RW.all [14, 28] (by kernel_rfl) (List.forall_mem_cons.2 ⟨?_, List.forall_mem_cons.2 ⟨?_, List.forall_mem_nil _⟩⟩)
    ·
     refine RO.eS rfl rfl (Ef.one [_] (e := 9) (sz := 1) (by kernel_rfl) ⟨.string .empty, by kernel_rfl, rfl⟩ rfl rfl rfl (by omega) (by omega) ?_)
     intro g80
     refine ⟨Sub.any, ?_⟩
     refine RW.all [15, 28] (by kernel_rfl) (List.forall_mem_cons.2 ⟨?_, List.forall_mem_cons.2 ⟨?_, List.forall_mem_nil _⟩⟩)
     ·
      refine RO.eS rfl rfl (Ef.call (Lb.insertS B (LT.nd h q).ka (LT.nd h q).kv.length (LT.nd h q).kc 0 g80 ((LT.nd h q).ks.map kT) (kT sk.1) (by simp) (Nat.zero_le _) (by omega) rfl one_kT) Try.func46 rfl rfl rfl ?_)
      rintro _ _ ⟨p5, c5, rfl, ⟨h5, rfl⟩, rfl⟩
      try simp only [List.cons_append, List.nil_append]
      refine ⟨Sub.any, ?_⟩
      refine RW.one 28 (by kernel_rfl) ?_
      refine RO.eS rfl rfl (Ef.one [_] (e := 2) (sz := 1) (by kernel_rfl) ⟨.int .i64 0, by kernel_rfl, rfl⟩ rfl rfl rfl (by omega) (by omega) ?_)
      intro g94
      refine ⟨Sub.any, ?_⟩
      refine RW.one 29 (by kernel_rfl) ?_
      refine RO.r rfl rfl (by kernel_rfl) (Ef.call (Lb.insertI B (LT.nd h q).va (LT.nd h q).kv.length (LT.nd h q).vc 0 g94 ((LT.nd h q).vs.map iV) (iV sk.2) (by simp) (Nat.zero_le _) (by omega) rfl one_iV) Try.func47 rfl rfl rfl ?_)
      rintro _ _ ⟨p6, c6, rfl, ⟨h6, rfl⟩, rfl⟩
      try simp only [List.cons_append, List.nil_append]
      refine RW.q 30 rfl rfl (by kernel_rfl) (Sub.refl _) (Qt.nilCheck rfl) ?_
      refine RW.q 31 rfl rfl (by kernel_rfl) (Sub.refl _) (Qt.fieldAddr0 (by kernel_rfl) rfl) ?_
      refine RW.one 32 (by kernel_rfl) ?_
      refine RO.r0 rfl rfl (by kernel_rfl) (Ef.store1 (by kernel_rfl) rfl rfl rfl (by first | (simp; done) | (simp; omega)) ?_)
      try simp only [List.set_cons_zero, List.set_cons_succ]
      refine RW.done (by rfl) ?_
      simp only [List.drop_succ_cons, List.drop_zero, List.drop_nil]
      refine LW.q rfl (Qt.nilCheck rfl) ?_
      refine LW.q rfl (Qt.fieldAddr (off := 1) (by kernel_rfl) rfl) ?_
      refine LW.e0 rfl (Ef.store1 (by kernel_rfl) rfl rfl rfl (by first | (simp; done) | (simp; omega)) ?_)
      try simp only [List.set_cons_zero, List.set_cons_succ]
      refine LW.done ?_
      refine T.seq ?_
      refine T.draw 28 ([xB x bk bv bc ((M1 ++ lq :: q :: L2).map fun k => (LT.nd h k).p).length, ndB (LT.nd h lq) ((LT.ksL h lq).map fun k => (LK.nd h k).p).length, ndK (LT.nd h lq), ndV (LT.nd h lq)]) (by kernel_rfl) (Nat.le_of_ble_eq_true rfl) (by kernel_rfl) ?_
      refine RW.q 0 rfl rfl (by kernel_rfl) Sub.any (Qt.move rfl) ?_
      refine RW.q 1 rfl rfl (by kernel_rfl) Sub.any (Qt.nilCheck rfl) ?_
      refine RW.q 2 rfl rfl (by kernel_rfl) Sub.any (Qt.fieldAddr0 (by kernel_rfl) rfl) ?_
      first | refine RW.q 3 rfl rfl (by kernel_rfl) Sub.any (Qt.load (by kernel_rfl) rfl rfl) ?_ | refine RW.q 3 rfl rfl (by kernel_rfl) Sub.any (Qt.load (by kernel_rfl) rfl (map_at _ _ _ (by omega))) ?_ | refine RW.q 3 rfl rfl (by kernel_rfl) Sub.any (Qt.load (by kernel_rfl) rfl (flat_cell0 _ _ _ (by intros; rfl) _ (by omega) (by rfl))) ?_ | refine RW.q 3 rfl rfl (by kernel_rfl) Sub.any (Qt.load (by kernel_rfl) rfl (flat_cell _ _ _ (by intros; rfl) _ _ (by omega) (by rfl))) ?_ | refine RW.q 3 rfl rfl (by kernel_rfl) Sub.any (Qt.load (by kernel_rfl) rfl (bytes_at _ _ (by omega))) ?_
      refine RW.q 4 rfl rfl (by kernel_rfl) Sub.any (Qt.move rfl) ?_
      refine RW.q 5 rfl rfl (by kernel_rfl) Sub.any (Qt.sub (r := (M1.length : Int)) rfl rfl (by rw [wr64 (by simp only [List.length_append, List.length_singleton]; omega) (by simp only [List.length_append, List.length_singleton] at hll ⊢; omega)]; simp)) ?_
      refine RW.q 6 rfl rfl (by kernel_rfl) Sub.any (Qt.move rfl) ?_
      refine RW.q 7 rfl rfl (by kernel_rfl) Sub.any (Qt.nilCheck rfl) ?_
      refine RW.q 8 rfl rfl (by kernel_rfl) Sub.any (Qt.fieldAddr (off := 1) (by kernel_rfl) rfl) ?_
      first | refine RW.q 9 rfl rfl (by kernel_rfl) Sub.any (Qt.load (by kernel_rfl) rfl rfl) ?_ | refine RW.q 9 rfl rfl (by kernel_rfl) Sub.any (Qt.load (by kernel_rfl) rfl (map_at _ _ _ (by omega))) ?_ | refine RW.q 9 rfl rfl (by kernel_rfl) Sub.any (Qt.load (by kernel_rfl) rfl (flat_cell0 _ _ _ (by intros; rfl) _ (by omega) (by rfl))) ?_ | refine RW.q 9 rfl rfl (by kernel_rfl) Sub.any (Qt.load (by kernel_rfl) rfl (flat_cell _ _ _ (by intros; rfl) _ _ (by omega) (by rfl))) ?_ | refine RW.q 9 rfl rfl (by kernel_rfl) Sub.any (Qt.load (by kernel_rfl) rfl (bytes_at _ _ (by omega))) ?_
      refine RW.q 10 rfl rfl (by kernel_rfl) Sub.any (Qt.move rfl) ?_
      refine RW.q 11 rfl rfl (by kernel_rfl) Sub.any (Qt.sub (r := (M1.length : Int)) rfl rfl (by rw [wr64 (by simp only [List.length_append, List.length_singleton]; omega) (by simp only [List.length_append, List.length_singleton] at hll ⊢; omega)]; simp)) ?_
      refine RW.q 12 rfl rfl (by kernel_rfl) Sub.any (Qt.move rfl) ?_
      refine RW.q 13 rfl rfl (by kernel_rfl) Sub.any (Qt.nilCheck rfl) ?_
      refine RW.q 14 rfl rfl (by kernel_rfl) Sub.any (Qt.fieldAddr0 (by kernel_rfl) rfl) ?_
      refine RW.q 15 rfl rfl (by kernel_rfl) Sub.any (Qt.load (v := .slice (some ⟨bl, ol, none⟩) (LT.nd h lq).kv.length (LT.nd h lq).kc) (by kernel_rfl) rfl (by rw [← hlka]; rfl)) ?_
      refine RW.q 16 rfl rfl (by kernel_rfl) Sub.any (Qt.move rfl) ?_
      refine RW.q 17 rfl rfl (by kernel_rfl) Sub.any (Qt.index av.length (e := 9) (sz := 1) (by kernel_rfl) rfl rfl rfl (by omega)) ?_
      refine RW.q 18 rfl rfl (by kernel_rfl) Sub.any (Qt.loadW (v := kT e.1) (by kernel_rfl) rfl (fun w ho => by have := hcl av.length (by simp; omega) w (ho.map Sub.any); simpa [hae] using this)) ?_
      refine RW.q 19 rfl rfl (by kernel_rfl) Sub.any (Qt.move rfl) ?_
      refine RW.q 20 rfl rfl (by kernel_rfl) Sub.any (Qt.nilCheck rfl) ?_
      refine RW.q 21 rfl rfl (by kernel_rfl) Sub.any (Qt.fieldAddr (off := 1) (by kernel_rfl) rfl) ?_
      refine RW.q 22 rfl rfl (by kernel_rfl) Sub.any (Qt.load (v := .slice (some ⟨bw, ow, none⟩) (LT.nd h lq).kv.length (LT.nd h lq).vc) (by kernel_rfl) rfl (by rw [← hlva]; rfl)) ?_
      refine RW.q 23 rfl rfl (by kernel_rfl) Sub.any (Qt.move rfl) ?_
      refine RW.q 24 rfl rfl (by kernel_rfl) Sub.any (Qt.index av.length (e := 2) (sz := 1) (by kernel_rfl) rfl rfl rfl (by omega)) ?_
      refine RW.q 25 rfl rfl (by kernel_rfl) Sub.any (Qt.loadW (v := iV e.2) (by kernel_rfl) rfl (fun w ho => by have := hcw av.length (by simp; omega) w (ho.map Sub.any); simpa [hae] using this)) ?_
      refine RW.q 26 rfl rfl (by kernel_rfl) Sub.any (Qt.index M1.length (e := 9) (sz := 1) (by kernel_rfl) rfl rfl rfl hml) ?_
      refine RW.one 27 (by kernel_rfl) ?_
      refine RO.eS0 rfl rfl (Ef.store1 (by kernel_rfl) rfl rfl rfl (by first | (simp; done) | (simp; omega)) ?_)
      try simp only [List.set_cons_zero, List.set_cons_succ]
      refine ⟨Sub.any, ?_⟩
      refine RW.done (by rfl) ?_
      simp only [List.drop_succ_cons, List.drop_zero, List.drop_nil]
      refine LW.q rfl (Qt.index M1.length (e := 2) (sz := 1) (by kernel_rfl) rfl rfl rfl hml) ?_
      refine LW.e0 rfl (Ef.store1 (by kernel_rfl) rfl rfl rfl (by first | (simp; done) | (simp; omega)) ?_)
      try simp only [List.set_cons_zero, List.set_cons_succ]
      refine LW.done ?_
      refine T.seq ?_
      refine T.draw 17 ([]) (by kernel_rfl) (Nat.le_of_ble_eq_true rfl) (by kernel_rfl) ?_
      refine RW.q 0 rfl rfl (by kernel_rfl) Sub.any (Qt.move rfl) ?_
      refine RW.q 1 rfl rfl (by kernel_rfl) Sub.any (Qt.move rfl) ?_
      refine RW.q 2 rfl rfl (by kernel_rfl) Sub.any (Qt.move rfl) ?_
      refine RW.q 3 rfl rfl (by kernel_rfl) Sub.any (Qt.nilCheck rfl) ?_
      refine RW.q 4 rfl rfl (by kernel_rfl) Sub.any (Qt.fieldAddr0 (by kernel_rfl) rfl) ?_
      refine RW.q 6 rfl rfl (by kernel_rfl) Sub.any (Qt.move rfl) ?_
      refine RW.q 8 rfl rfl (by kernel_rfl) Sub.any (Qt.move rfl) ?_
      refine RW.q 9 rfl rfl (by kernel_rfl) Sub.any (Qt.nilCheck rfl) ?_
      refine RW.q 10 rfl rfl (by kernel_rfl) Sub.any (Qt.fieldAddr (off := 1) (by kernel_rfl) rfl) ?_
      refine RW.q 12 rfl rfl (by kernel_rfl) Sub.any (Qt.move rfl) ?_
      refine RW.all [5, 11] (by kernel_rfl) (List.forall_mem_cons.2 ⟨?_, List.forall_mem_cons.2 ⟨?_, List.forall_mem_nil _⟩⟩)
      ·
       first | refine RO.eS rfl rfl (Ef.qt (Qt.load (by kernel_rfl) rfl rfl) ?_) | refine RO.eS rfl rfl (Ef.qt (Qt.load (by kernel_rfl) rfl (map_at _ _ _ (by omega))) ?_) | refine RO.eS rfl rfl (Ef.qt (Qt.load (by kernel_rfl) rfl (flat_cell0 _ _ _ (by intros; rfl) _ (by omega) (by rfl))) ?_) | refine RO.eS rfl rfl (Ef.qt (Qt.load (by kernel_rfl) rfl (flat_cell _ _ _ (by intros; rfl) _ _ (by omega) (by rfl))) ?_) | refine RO.eS rfl rfl (Ef.qt (Qt.load (by kernel_rfl) rfl (bytes_at _ _ (by omega))) ?_)
       refine ⟨Sub.any, ?_⟩
       refine RW.q 7 rfl rfl (by kernel_rfl) Sub.any (Qt.slice_nsn av.length (e := 9) (sz := 1) (by kernel_rfl) rfl rfl rfl (by omega)) ?_
       refine RW.one 11 (by kernel_rfl) ?_
       first | refine RO.eS rfl rfl (Ef.qt (Qt.load (by kernel_rfl) rfl rfl) ?_) | refine RO.eS rfl rfl (Ef.qt (Qt.load (by kernel_rfl) rfl (map_at _ _ _ (by omega))) ?_) | refine RO.eS rfl rfl (Ef.qt (Qt.load (by kernel_rfl) rfl (flat_cell0 _ _ _ (by intros; rfl) _ (by omega) (by rfl))) ?_) | refine RO.eS rfl rfl (Ef.qt (Qt.load (by kernel_rfl) rfl (flat_cell _ _ _ (by intros; rfl) _ _ (by omega) (by rfl))) ?_) | refine RO.eS rfl rfl (Ef.qt (Qt.load (by kernel_rfl) rfl (bytes_at _ _ (by omega))) ?_)
       refine ⟨Sub.any, ?_⟩
       refine RW.q 13 rfl rfl (by kernel_rfl) Sub.any (Qt.slice_nsn av.length (e := 2) (sz := 1) (by kernel_rfl) rfl rfl rfl (by omega)) ?_
       refine RW.q 14 rfl rfl (by kernel_rfl) Sub.any (Qt.nilCheck rfl) ?_
       refine RW.q 15 rfl rfl (by kernel_rfl) Sub.any (Qt.fieldAddr0 (by kernel_rfl) rfl) ?_
       refine RW.one 16 (by kernel_rfl) ?_
       refine RO.eS0 rfl rfl (Ef.store1 (by kernel_rfl) rfl rfl rfl (by first | (simp; done) | (simp; omega)) ?_)
       try simp only [List.set_cons_zero, List.set_cons_succ]
       refine ⟨Sub.any, ?_⟩
       refine RW.done (by rfl) ?_
       simp only [List.drop_succ_cons, List.drop_zero, List.drop_nil]
       refine LW.q rfl (Qt.nilCheck rfl) ?_
       refine LW.q rfl (Qt.fieldAddr (off := 1) (by kernel_rfl) rfl) ?_
       refine LW.e0 rfl (Ef.store1 (by kernel_rfl) rfl rfl rfl (by first | (simp; done) | (simp; omega)) ?_)
       try simp only [List.set_cons_zero, List.set_cons_succ]
       refine LW.done ?_
       refine T.seq ?_
       refine T.seq ?_
       refine T.region ?_
       refine LW.q rfl (Qt.move rfl) ?_
       refine LW.e rfl (Ef.call (Bt.leaf B ⟨(LT.nd h lq).p, av, (LT.nd h lq).ka, (LT.nd h lq).kc, (LT.nd h lq).va, (LT.nd h lq).vc, (LT.nd h lq).ca, (LT.nd h lq).cc⟩ ((LT.ksL h lq).map fun k => (LK.nd h k).p).length) Try.func45 rfl rfl rfl ?_)
       rintro _ _ ⟨rfl, rfl⟩
       try simp only [List.cons_append, List.nil_append]
       first | refine LW.q rfl (Qt.notP rfl) ?_ | refine LW.q rfl (Qt.notB rfl) ?_
       refine LW.done ?_
       refine T.condP rfl (fun hnl => ?_) (fun hnl => ?_)
       ·
        have hkk := hklq.2.2.1.resolve_left (fun e => by subst e; cases hq : LT.ksL 0 lq with | nil => rw [hq] at hnl; simp at hnl | cons e _ => exact e.elim)
        have hdr : (LT.ksL h lq).drop (LT.nd h lq).kv.length = [(LT.ksL h lq)[(LT.nd h lq).kv.length]'(by omega)] := by rw [List.drop_eq_getElem_cons (by omega), List.drop_of_length_le (by omega)]
        obtain ⟨bn, on, hlca, hcn⟩ := (RdV.cs (B := B) hpc).at (by rw [List.length_map]; omega)
        refine T.seq ?_
        refine T.draw 15 ([cellA (LT.nd h q).p 2 (.slice (LT.nd h q).ca ((LT.ksL h q).map fun k => (LK.nd h k).p).length (LT.nd h q).cc), cellA (LT.nd h lq).p 2 (.slice (LT.nd h lq).ca ((LT.ksL h lq).map fun k => (LK.nd h k).p).length (LT.nd h lq).cc), ndC (LT.nd h lq) ((LT.ksL h lq).map fun k => (LK.nd h k).p)]) (by kernel_rfl) (Nat.le_of_ble_eq_true rfl) (by kernel_rfl) ?_
        refine RW.q 0 rfl rfl (by kernel_rfl) Sub.any (Qt.move rfl) ?_
        refine RW.q 1 rfl rfl (by kernel_rfl) Sub.any (Qt.move rfl) ?_
        refine RW.q 2 rfl rfl (by kernel_rfl) Sub.any (Qt.nilCheck rfl) ?_
        refine RW.q 3 rfl rfl (by kernel_rfl) Sub.any (Qt.fieldAddr (off := 2) (by kernel_rfl) rfl) ?_
        refine RW.q 4 rfl rfl (by kernel_rfl) Sub.any (Qt.loadC (by kernel_rfl) rfl rfl) ?_
        refine RW.q 5 rfl rfl (by kernel_rfl) Sub.any (Qt.move rfl) ?_
        refine RW.q 6 rfl rfl (by kernel_rfl) Sub.any (Qt.nilCheck rfl) ?_
        refine RW.q 7 rfl rfl (by kernel_rfl) Sub.any (Qt.fieldAddr (off := 2) (by kernel_rfl) rfl) ?_
        refine RW.q 8 rfl rfl (by kernel_rfl) Sub.any (Qt.loadC (v := .slice (some ⟨bn, on, none⟩) ((LT.ksL h lq).map fun k => (LK.nd h k).p).length (LT.nd h lq).cc) (by kernel_rfl) rfl (by rw [hlca])) ?_
        refine RW.q 9 rfl rfl (by kernel_rfl) Sub.any (Qt.move rfl) ?_
        refine RW.q 10 rfl rfl (by kernel_rfl) Sub.any (Qt.add (r := ((av.length + 1 : Nat) : Int)) rfl rfl (by rw [wr64 (by omega) (by omega)]; omega)) ?_
        refine RW.q 11 rfl rfl (by kernel_rfl) Sub.any (Qt.index (av.length + 1) (e := 95) (sz := 1) (by kernel_rfl) rfl rfl rfl (by rw [List.length_map]; omega)) ?_
        refine RW.q 12 rfl rfl (by kernel_rfl) Sub.any (Qt.loadW (v := pV (LK.nd h ((LT.ksL h lq)[(LT.nd h lq).kv.length]'(by omega))).p) (by kernel_rfl) rfl (fun w ho => by have := hcn (av.length + 1) (by simp; omega) w (ho.map Sub.any); rw [List.getElem_map, List.getElem_map] at this; simp only [hla]; exact this)) ?_
        refine RW.one 13 (by kernel_rfl) ?_
        refine RO.eS rfl rfl (Ef.one [_] (e := 95) (sz := 1) (by kernel_rfl) ⟨.pointer none, by kernel_rfl, rfl⟩ rfl rfl rfl (by omega) (by omega) ?_)
        intro g162
        refine ⟨Sub.any, ?_⟩
        refine RW.one 14 (by kernel_rfl) ?_
        refine RO.r rfl rfl (by kernel_rfl) (Ef.call (Lb.insertN B (LT.nd h q).ca ((LT.ksL h q).map fun k => (LK.nd h k).p).length (LT.nd h q).cc 0 g162 (((LT.ksL h q).map fun k => (LK.nd h k).p).map pV) (pV (LK.nd h ((LT.ksL h lq)[(LT.nd h lq).kv.length]'(by omega))).p) (by simp) (Nat.zero_le _) (by have := hkq.ksl (by omega); rw [List.length_map]; omega) rfl one_pV) Try.func71 rfl rfl rfl ?_)
        rintro _ _ ⟨p7, c7, rfl, ⟨h7, rfl⟩, rfl⟩
        try simp only [List.cons_append, List.nil_append]
        refine RW.done (by rfl) ?_
        simp only [List.drop_succ_cons, List.drop_zero, List.drop_nil]
        refine LW.q rfl (Qt.nilCheck rfl) ?_
        refine LW.q rfl (Qt.fieldAddr (off := 2) (by kernel_rfl) rfl) ?_
        refine LW.e0 rfl (Ef.store1 (by kernel_rfl) rfl rfl rfl (by first | (simp; done) | (simp; omega)) ?_)
        try simp only [List.set_cons_zero, List.set_cons_succ]
        refine LW.done ?_
        refine T.region ?_
        refine LW.q rfl (Qt.move rfl) ?_
        refine LW.q rfl (Qt.move rfl) ?_
        refine LW.q rfl (Qt.nilCheck rfl) ?_
        refine LW.q rfl (Qt.fieldAddr (off := 2) (by kernel_rfl) rfl) ?_
        first | refine LW.q rfl (Qt.load (by kernel_rfl) rfl rfl) ?_ | refine LW.q rfl (Qt.load (by kernel_rfl) rfl (map_at _ _ _ (by omega))) ?_ | refine LW.q rfl (Qt.load (by kernel_rfl) rfl (flat_cell0 _ _ _ (by intros; rfl) _ (by omega) (by rfl))) ?_ | refine LW.q rfl (Qt.load (by kernel_rfl) rfl (flat_cell _ _ _ (by intros; rfl) _ _ (by omega) (by rfl))) ?_ | refine LW.q rfl (Qt.load (by kernel_rfl) rfl (bytes_at _ _ (by omega))) ?_
        refine LW.q rfl (Qt.move rfl) ?_
        refine LW.q rfl (Qt.add (r := ((av.length + 1 : Nat) : Int)) rfl rfl (by rw [wr64 (by omega) (by omega)]; omega)) ?_
        refine LW.q rfl (Qt.slice_nsn (av.length + 1) (e := 95) (sz := 1) (by kernel_rfl) rfl rfl rfl (by show _ ≤ (LT.nd h lq).cc; rw [List.length_map] at hlcc; omega)) ?_
        refine LW.q rfl (Qt.nilCheck rfl) ?_
        refine LW.q rfl (Qt.fieldAddr (off := 2) (by kernel_rfl) rfl) ?_
        refine LW.e0 rfl (Ef.store1 (by kernel_rfl) rfl rfl rfl (by first | (simp; done) | (simp; omega)) ?_)
        try simp only [List.set_cons_zero, List.set_cons_succ]
        refine LW.done ?_
        refine T.seq ?_
        refine T.region ?_
        refine LW.q rfl (Qt.move rfl) ?_
        refine LW.q rfl (Qt.assign rfl) ?_
        refine LW.done ?_
        refine T.ret ?_
        exact ⟨.inl rfl, _, _, res [_] rfl ⟨rvT rfl, trivial⟩, (fill_left (x' := ⟨x.p, x.kv.set M1.length e, some ⟨bk, 0, none⟩, x.kc, some ⟨bv, 0, none⟩, x.vc, some ⟨bc, 0, none⟩, x.cc⟩) (y := ⟨(LT.nd h lq).p, av, (LT.nd h lq).ka, (LT.nd h lq).kc, (LT.nd h lq).va, (LT.nd h lq).vc, (LT.nd h lq).ca, (LT.nd h lq).cc⟩) (z := ⟨(LT.nd h q).p, sk :: (LT.nd h q).kv, some ⟨h5, 0, none⟩, c5, some ⟨h6, 0, none⟩, c6, some ⟨h7, 0, none⟩, c7⟩) (by rw [← eL]; exact hok.mono (Nat.zero_le _)) hs rfl rfl hae rfl rfl hqe (by omega) ho), (fun k K => fl_end (av := av) (p5 := some ⟨h5, 0, none⟩) (c5 := c5) (p6 := some ⟨h6, 0, none⟩) (c6 := c6) (p7 := some ⟨h7, 0, none⟩) (c7 := c7) (x := x) hka hva hca hs hae (m1 := av.length + 1) (by rw [List.length_take, hla]; omega) (m2 := ((LT.ksL h q).map fun k => (LK.nd h k).p).length + 1) (by rw [hdr]; simp <;> omega) (bps := List.take 0 (((LT.ksL h q).map fun k => (LK.nd h k).p).map pV) ++ pV (LK.nd h ((LT.ksL h lq)[(LT.nd h lq).kv.length]'(by omega))).p :: ((LT.ksL h q).map fun k => (LK.nd h k).p).map pV) (by rw [hdr]; simp) (Sub.any k K))⟩
       ·
        have hnl0 : (LT.ksL h lq) = [] := List.eq_nil_of_length_eq_zero (by simp at hnl; simp [hnl])
        refine T.skip ?_
        refine T.seq ?_
        refine T.region ?_
        refine LW.q rfl (Qt.move rfl) ?_
        refine LW.q rfl (Qt.assign rfl) ?_
        refine LW.done ?_
        refine T.ret ?_
        exact ⟨.inl rfl, _, _, res [_] rfl ⟨rvT rfl, trivial⟩, (fill_left (x' := ⟨x.p, x.kv.set M1.length e, some ⟨bk, 0, none⟩, x.kc, some ⟨bv, 0, none⟩, x.vc, some ⟨bc, 0, none⟩, x.cc⟩) (y := ⟨(LT.nd h lq).p, av, (LT.nd h lq).ka, (LT.nd h lq).kc, (LT.nd h lq).va, (LT.nd h lq).vc, (LT.nd h lq).ca, (LT.nd h lq).cc⟩) (z := ⟨(LT.nd h q).p, sk :: (LT.nd h q).kv, some ⟨h5, 0, none⟩, c5, some ⟨h6, 0, none⟩, c6, (LT.nd h q).ca, (LT.nd h q).cc⟩) (by rw [← eL]; exact hok.mono (Nat.zero_le _)) hs rfl rfl hae rfl rfl hqe (by omega) ho), (fun k K => fl_end (av := av) (p5 := some ⟨h5, 0, none⟩) (c5 := c5) (p6 := some ⟨h6, 0, none⟩) (c6 := c6) (p7 := (LT.nd h q).ca) (c7 := (LT.nd h q).cc) (x := x) hka hva hca hs hae (m1 := ((LT.ksL h lq).map fun k => (LK.nd h k).p).length) (by rw [hnl0]; simp) (m2 := ((LT.ksL h q).map fun k => (LK.nd h k).p).length) (by rw [hnl0]; simp) (bps := ((LT.ksL h q).map fun k => (LK.nd h k).p).map pV) (by rw [hnl0]; simp) (Sub.any k K))⟩
      ·
       first | refine RO.eS rfl rfl (Ef.qt (Qt.load (by kernel_rfl) rfl rfl) ?_) | refine RO.eS rfl rfl (Ef.qt (Qt.load (by kernel_rfl) rfl (map_at _ _ _ (by omega))) ?_) | refine RO.eS rfl rfl (Ef.qt (Qt.load (by kernel_rfl) rfl (flat_cell0 _ _ _ (by intros; rfl) _ (by omega) (by rfl))) ?_) | refine RO.eS rfl rfl (Ef.qt (Qt.load (by kernel_rfl) rfl (flat_cell _ _ _ (by intros; rfl) _ _ (by omega) (by rfl))) ?_) | refine RO.eS rfl rfl (Ef.qt (Qt.load (by kernel_rfl) rfl (bytes_at _ _ (by omega))) ?_)
       refine ⟨Sub.any, ?_⟩
       refine RW.q 13 rfl rfl (by kernel_rfl) Sub.any (Qt.slice_nsn av.length (e := 2) (sz := 1) (by kernel_rfl) rfl rfl rfl (by omega)) ?_
       refine RW.one 5 (by kernel_rfl) ?_
       first | refine RO.eS rfl rfl (Ef.qt (Qt.load (by kernel_rfl) rfl rfl) ?_) | refine RO.eS rfl rfl (Ef.qt (Qt.load (by kernel_rfl) rfl (map_at _ _ _ (by omega))) ?_) | refine RO.eS rfl rfl (Ef.qt (Qt.load (by kernel_rfl) rfl (flat_cell0 _ _ _ (by intros; rfl) _ (by omega) (by rfl))) ?_) | refine RO.eS rfl rfl (Ef.qt (Qt.load (by kernel_rfl) rfl (flat_cell _ _ _ (by intros; rfl) _ _ (by omega) (by rfl))) ?_) | refine RO.eS rfl rfl (Ef.qt (Qt.load (by kernel_rfl) rfl (bytes_at _ _ (by omega))) ?_)
       refine ⟨Sub.any, ?_⟩
       refine RW.q 7 rfl rfl (by kernel_rfl) Sub.any (Qt.slice_nsn av.length (e := 9) (sz := 1) (by kernel_rfl) rfl rfl rfl (by omega)) ?_
       refine RW.q 14 rfl rfl (by kernel_rfl) Sub.any (Qt.nilCheck rfl) ?_
       refine RW.q 15 rfl rfl (by kernel_rfl) Sub.any (Qt.fieldAddr0 (by kernel_rfl) rfl) ?_
       refine RW.one 16 (by kernel_rfl) ?_
       refine RO.eS0 rfl rfl (Ef.store1 (by kernel_rfl) rfl rfl rfl (by first | (simp; done) | (simp; omega)) ?_)
       try simp only [List.set_cons_zero, List.set_cons_succ]
       refine ⟨Sub.any, ?_⟩
       refine RW.done (by rfl) ?_
       simp only [List.drop_succ_cons, List.drop_zero, List.drop_nil]
       refine LW.q rfl (Qt.nilCheck rfl) ?_
       refine LW.q rfl (Qt.fieldAddr (off := 1) (by kernel_rfl) rfl) ?_
       refine LW.e0 rfl (Ef.store1 (by kernel_rfl) rfl rfl rfl (by first | (simp; done) | (simp; omega)) ?_)
       try simp only [List.set_cons_zero, List.set_cons_succ]
       refine LW.done ?_
       refine T.seq ?_
       refine T.seq ?_
       refine T.region ?_
       refine LW.q rfl (Qt.move rfl) ?_
       refine LW.e rfl (Ef.call (Bt.leaf B ⟨(LT.nd h lq).p, av, (LT.nd h lq).ka, (LT.nd h lq).kc, (LT.nd h lq).va, (LT.nd h lq).vc, (LT.nd h lq).ca, (LT.nd h lq).cc⟩ ((LT.ksL h lq).map fun k => (LK.nd h k).p).length) Try.func45 rfl rfl rfl ?_)
       rintro _ _ ⟨rfl, rfl⟩
       try simp only [List.cons_append, List.nil_append]
       first | refine LW.q rfl (Qt.notP rfl) ?_ | refine LW.q rfl (Qt.notB rfl) ?_
       refine LW.done ?_
       refine T.condP rfl (fun hnl => ?_) (fun hnl => ?_)
       ·
        have hkk := hklq.2.2.1.resolve_left (fun e => by subst e; cases hq : LT.ksL 0 lq with | nil => rw [hq] at hnl; simp at hnl | cons e _ => exact e.elim)
        have hdr : (LT.ksL h lq).drop (LT.nd h lq).kv.length = [(LT.ksL h lq)[(LT.nd h lq).kv.length]'(by omega)] := by rw [List.drop_eq_getElem_cons (by omega), List.drop_of_length_le (by omega)]
        obtain ⟨bn, on, hlca, hcn⟩ := (RdV.cs (B := B) hpc).at (by rw [List.length_map]; omega)
        refine T.seq ?_
        refine T.draw 15 ([cellA (LT.nd h q).p 2 (.slice (LT.nd h q).ca ((LT.ksL h q).map fun k => (LK.nd h k).p).length (LT.nd h q).cc), cellA (LT.nd h lq).p 2 (.slice (LT.nd h lq).ca ((LT.ksL h lq).map fun k => (LK.nd h k).p).length (LT.nd h lq).cc), ndC (LT.nd h lq) ((LT.ksL h lq).map fun k => (LK.nd h k).p)]) (by kernel_rfl) (Nat.le_of_ble_eq_true rfl) (by kernel_rfl) ?_
        refine RW.q 0 rfl rfl (by kernel_rfl) Sub.any (Qt.move rfl) ?_
        refine RW.q 1 rfl rfl (by kernel_rfl) Sub.any (Qt.move rfl) ?_
        refine RW.q 2 rfl rfl (by kernel_rfl) Sub.any (Qt.nilCheck rfl) ?_
        refine RW.q 3 rfl rfl (by kernel_rfl) Sub.any (Qt.fieldAddr (off := 2) (by kernel_rfl) rfl) ?_
        refine RW.q 4 rfl rfl (by kernel_rfl) Sub.any (Qt.loadC (by kernel_rfl) rfl rfl) ?_
        refine RW.q 5 rfl rfl (by kernel_rfl) Sub.any (Qt.move rfl) ?_
        refine RW.q 6 rfl rfl (by kernel_rfl) Sub.any (Qt.nilCheck rfl) ?_
        refine RW.q 7 rfl rfl (by kernel_rfl) Sub.any (Qt.fieldAddr (off := 2) (by kernel_rfl) rfl) ?_
        refine RW.q 8 rfl rfl (by kernel_rfl) Sub.any (Qt.loadC (v := .slice (some ⟨bn, on, none⟩) ((LT.ksL h lq).map fun k => (LK.nd h k).p).length (LT.nd h lq).cc) (by kernel_rfl) rfl (by rw [hlca])) ?_
        refine RW.q 9 rfl rfl (by kernel_rfl) Sub.any (Qt.move rfl) ?_
        refine RW.q 10 rfl rfl (by kernel_rfl) Sub.any (Qt.add (r := ((av.length + 1 : Nat) : Int)) rfl rfl (by rw [wr64 (by omega) (by omega)]; omega)) ?_
        refine RW.q 11 rfl rfl (by kernel_rfl) Sub.any (Qt.index (av.length + 1) (e := 95) (sz := 1) (by kernel_rfl) rfl rfl rfl (by rw [List.length_map]; omega)) ?_
        refine RW.q 12 rfl rfl (by kernel_rfl) Sub.any (Qt.loadW (v := pV (LK.nd h ((LT.ksL h lq)[(LT.nd h lq).kv.length]'(by omega))).p) (by kernel_rfl) rfl (fun w ho => by have := hcn (av.length + 1) (by simp; omega) w (ho.map Sub.any); rw [List.getElem_map, List.getElem_map] at this; simp only [hla]; exact this)) ?_
        refine RW.one 13 (by kernel_rfl) ?_
        refine RO.eS rfl rfl (Ef.one [_] (e := 95) (sz := 1) (by kernel_rfl) ⟨.pointer none, by kernel_rfl, rfl⟩ rfl rfl rfl (by omega) (by omega) ?_)
        intro g162
        refine ⟨Sub.any, ?_⟩
        refine RW.one 14 (by kernel_rfl) ?_
        refine RO.r rfl rfl (by kernel_rfl) (Ef.call (Lb.insertN B (LT.nd h q).ca ((LT.ksL h q).map fun k => (LK.nd h k).p).length (LT.nd h q).cc 0 g162 (((LT.ksL h q).map fun k => (LK.nd h k).p).map pV) (pV (LK.nd h ((LT.ksL h lq)[(LT.nd h lq).kv.length]'(by omega))).p) (by simp) (Nat.zero_le _) (by have := hkq.ksl (by omega); rw [List.length_map]; omega) rfl one_pV) Try.func71 rfl rfl rfl ?_)
        rintro _ _ ⟨p7, c7, rfl, ⟨h7, rfl⟩, rfl⟩
        try simp only [List.cons_append, List.nil_append]
        refine RW.done (by rfl) ?_
        simp only [List.drop_succ_cons, List.drop_zero, List.drop_nil]
        refine LW.q rfl (Qt.nilCheck rfl) ?_
        refine LW.q rfl (Qt.fieldAddr (off := 2) (by kernel_rfl) rfl) ?_
        refine LW.e0 rfl (Ef.store1 (by kernel_rfl) rfl rfl rfl (by first | (simp; done) | (simp; omega)) ?_)
        try simp only [List.set_cons_zero, List.set_cons_succ]
        refine LW.done ?_
        refine T.region ?_
        refine LW.q rfl (Qt.move rfl) ?_
        refine LW.q rfl (Qt.move rfl) ?_
        refine LW.q rfl (Qt.nilCheck rfl) ?_
        refine LW.q rfl (Qt.fieldAddr (off := 2) (by kernel_rfl) rfl) ?_
        first | refine LW.q rfl (Qt.load (by kernel_rfl) rfl rfl) ?_ | refine LW.q rfl (Qt.load (by kernel_rfl) rfl (map_at _ _ _ (by omega))) ?_ | refine LW.q rfl (Qt.load (by kernel_rfl) rfl (flat_cell0 _ _ _ (by intros; rfl) _ (by omega) (by rfl))) ?_ | refine LW.q rfl (Qt.load (by kernel_rfl) rfl (flat_cell _ _ _ (by intros; rfl) _ _ (by omega) (by rfl))) ?_ | refine LW.q rfl (Qt.load (by kernel_rfl) rfl (bytes_at _ _ (by omega))) ?_
        refine LW.q rfl (Qt.move rfl) ?_
        refine LW.q rfl (Qt.add (r := ((av.length + 1 : Nat) : Int)) rfl rfl (by rw [wr64 (by omega) (by omega)]; omega)) ?_
        refine LW.q rfl (Qt.slice_nsn (av.length + 1) (e := 95) (sz := 1) (by kernel_rfl) rfl rfl rfl (by show _ ≤ (LT.nd h lq).cc; rw [List.length_map] at hlcc; omega)) ?_
        refine LW.q rfl (Qt.nilCheck rfl) ?_
        refine LW.q rfl (Qt.fieldAddr (off := 2) (by kernel_rfl) rfl) ?_
        refine LW.e0 rfl (Ef.store1 (by kernel_rfl) rfl rfl rfl (by first | (simp; done) | (simp; omega)) ?_)
        try simp only [List.set_cons_zero, List.set_cons_succ]
        refine LW.done ?_
        refine T.seq ?_
        refine T.region ?_
        refine LW.q rfl (Qt.move rfl) ?_
        refine LW.q rfl (Qt.assign rfl) ?_
        refine LW.done ?_
        refine T.ret ?_
        exact ⟨.inl rfl, _, _, res [_] rfl ⟨rvT rfl, trivial⟩, (fill_left (x' := ⟨x.p, x.kv.set M1.length e, some ⟨bk, 0, none⟩, x.kc, some ⟨bv, 0, none⟩, x.vc, some ⟨bc, 0, none⟩, x.cc⟩) (y := ⟨(LT.nd h lq).p, av, (LT.nd h lq).ka, (LT.nd h lq).kc, (LT.nd h lq).va, (LT.nd h lq).vc, (LT.nd h lq).ca, (LT.nd h lq).cc⟩) (z := ⟨(LT.nd h q).p, sk :: (LT.nd h q).kv, some ⟨h5, 0, none⟩, c5, some ⟨h6, 0, none⟩, c6, some ⟨h7, 0, none⟩, c7⟩) (by rw [← eL]; exact hok.mono (Nat.zero_le _)) hs rfl rfl hae rfl rfl hqe (by omega) ho), (fun k K => fl_end (av := av) (p5 := some ⟨h5, 0, none⟩) (c5 := c5) (p6 := some ⟨h6, 0, none⟩) (c6 := c6) (p7 := some ⟨h7, 0, none⟩) (c7 := c7) (x := x) hka hva hca hs hae (m1 := av.length + 1) (by rw [List.length_take, hla]; omega) (m2 := ((LT.ksL h q).map fun k => (LK.nd h k).p).length + 1) (by rw [hdr]; simp <;> omega) (bps := List.take 0 (((LT.ksL h q).map fun k => (LK.nd h k).p).map pV) ++ pV (LK.nd h ((LT.ksL h lq)[(LT.nd h lq).kv.length]'(by omega))).p :: ((LT.ksL h q).map fun k => (LK.nd h k).p).map pV) (by rw [hdr]; simp) (Sub.any k K))⟩
       ·
        have hnl0 : (LT.ksL h lq) = [] := List.eq_nil_of_length_eq_zero (by simp at hnl; simp [hnl])
        refine T.skip ?_
        refine T.seq ?_
        refine T.region ?_
        refine LW.q rfl (Qt.move rfl) ?_
        refine LW.q rfl (Qt.assign rfl) ?_
        refine LW.done ?_
        refine T.ret ?_
        exact ⟨.inl rfl, _, _, res [_] rfl ⟨rvT rfl, trivial⟩, (fill_left (x' := ⟨x.p, x.kv.set M1.length e, some ⟨bk, 0, none⟩, x.kc, some ⟨bv, 0, none⟩, x.vc, some ⟨bc, 0, none⟩, x.cc⟩) (y := ⟨(LT.nd h lq).p, av, (LT.nd h lq).ka, (LT.nd h lq).kc, (LT.nd h lq).va, (LT.nd h lq).vc, (LT.nd h lq).ca, (LT.nd h lq).cc⟩) (z := ⟨(LT.nd h q).p, sk :: (LT.nd h q).kv, some ⟨h5, 0, none⟩, c5, some ⟨h6, 0, none⟩, c6, (LT.nd h q).ca, (LT.nd h q).cc⟩) (by rw [← eL]; exact hok.mono (Nat.zero_le _)) hs rfl rfl hae rfl rfl hqe (by omega) ho), (fun k K => fl_end (av := av) (p5 := some ⟨h5, 0, none⟩) (c5 := c5) (p6 := some ⟨h6, 0, none⟩) (c6 := c6) (p7 := (LT.nd h q).ca) (c7 := (LT.nd h q).cc) (x := x) hka hva hca hs hae (m1 := ((LT.ksL h lq).map fun k => (LK.nd h k).p).length) (by rw [hnl0]; simp) (m2 := ((LT.ksL h q).map fun k => (LK.nd h k).p).length) (by rw [hnl0]; simp) (bps := ((LT.ksL h q).map fun k => (LK.nd h k).p).map pV) (by rw [hnl0]; simp) (Sub.any k K))⟩
     ·
      refine RO.eS rfl rfl (Ef.one [_] (e := 2) (sz := 1) (by kernel_rfl) ⟨.int .i64 0, by kernel_rfl, rfl⟩ rfl rfl rfl (by omega) (by omega) ?_)
      intro g94
      refine ⟨Sub.any, ?_⟩
      refine RW.one 15 (by kernel_rfl) ?_
      refine RO.eS rfl rfl (Ef.call (Lb.insertS B (LT.nd h q).ka (LT.nd h q).kv.length (LT.nd h q).kc 0 g80 ((LT.nd h q).ks.map kT) (kT sk.1) (by simp) (Nat.zero_le _) (by omega) rfl one_kT) Try.func46 rfl rfl rfl ?_)
      rintro _ _ ⟨p5, c5, rfl, ⟨h5, rfl⟩, rfl⟩
      try simp only [List.cons_append, List.nil_append]
      refine ⟨Sub.any, ?_⟩
      refine RW.one 29 (by kernel_rfl) ?_
      refine RO.r rfl rfl (by kernel_rfl) (Ef.call (Lb.insertI B (LT.nd h q).va (LT.nd h q).kv.length (LT.nd h q).vc 0 g94 ((LT.nd h q).vs.map iV) (iV sk.2) (by simp) (Nat.zero_le _) (by omega) rfl one_iV) Try.func47 rfl rfl rfl ?_)
      rintro _ _ ⟨p6, c6, rfl, ⟨h6, rfl⟩, rfl⟩
      try simp only [List.cons_append, List.nil_append]
      refine RW.q 30 rfl rfl (by kernel_rfl) (Sub.refl _) (Qt.nilCheck rfl) ?_
      refine RW.q 31 rfl rfl (by kernel_rfl) (Sub.refl _) (Qt.fieldAddr0 (by kernel_rfl) rfl) ?_
      refine RW.one 32 (by kernel_rfl) ?_
      refine RO.r0 rfl rfl (by kernel_rfl) (Ef.store1 (by kernel_rfl) rfl rfl rfl (by first | (simp; done) | (simp; omega)) ?_)
      try simp only [List.set_cons_zero, List.set_cons_succ]
      refine RW.done (by rfl) ?_
      simp only [List.drop_succ_cons, List.drop_zero, List.drop_nil]
      refine LW.q rfl (Qt.nilCheck rfl) ?_
      refine LW.q rfl (Qt.fieldAddr (off := 1) (by kernel_rfl) rfl) ?_
      refine LW.e0 rfl (Ef.store1 (by kernel_rfl) rfl rfl rfl (by first | (simp; done) | (simp; omega)) ?_)
      try simp only [List.set_cons_zero, List.set_cons_succ]
      refine LW.done ?_
      refine T.seq ?_
      refine T.draw 28 ([xB x bk bv bc ((M1 ++ lq :: q :: L2).map fun k => (LT.nd h k).p).length, ndB (LT.nd h lq) ((LT.ksL h lq).map fun k => (LK.nd h k).p).length, ndK (LT.nd h lq), ndV (LT.nd h lq)]) (by kernel_rfl) (Nat.le_of_ble_eq_true rfl) (by kernel_rfl) ?_
      refine RW.q 0 rfl rfl (by kernel_rfl) Sub.any (Qt.move rfl) ?_
      refine RW.q 1 rfl rfl (by kernel_rfl) Sub.any (Qt.nilCheck rfl) ?_
      refine RW.q 2 rfl rfl (by kernel_rfl) Sub.any (Qt.fieldAddr0 (by kernel_rfl) rfl) ?_
      first | refine RW.q 3 rfl rfl (by kernel_rfl) Sub.any (Qt.load (by kernel_rfl) rfl rfl) ?_ | refine RW.q 3 rfl rfl (by kernel_rfl) Sub.any (Qt.load (by kernel_rfl) rfl (map_at _ _ _ (by omega))) ?_ | refine RW.q 3 rfl rfl (by kernel_rfl) Sub.any (Qt.load (by kernel_rfl) rfl (flat_cell0 _ _ _ (by intros; rfl) _ (by omega) (by rfl))) ?_ | refine RW.q 3 rfl rfl (by kernel_rfl) Sub.any (Qt.load (by kernel_rfl) rfl (flat_cell _ _ _ (by intros; rfl) _ _ (by omega) (by rfl))) ?_ | refine RW.q 3 rfl rfl (by kernel_rfl) Sub.any (Qt.load (by kernel_rfl) rfl (bytes_at _ _ (by omega))) ?_
      refine RW.q 4 rfl rfl (by kernel_rfl) Sub.any (Qt.move rfl) ?_
      refine RW.q 5 rfl rfl (by kernel_rfl) Sub.any (Qt.sub (r := (M1.length : Int)) rfl rfl (by rw [wr64 (by simp only [List.length_append, List.length_singleton]; omega) (by simp only [List.length_append, List.length_singleton] at hll ⊢; omega)]; simp)) ?_
      refine RW.q 6 rfl rfl (by kernel_rfl) Sub.any (Qt.move rfl) ?_
      refine RW.q 7 rfl rfl (by kernel_rfl) Sub.any (Qt.nilCheck rfl) ?_
      refine RW.q 8 rfl rfl (by kernel_rfl) Sub.any (Qt.fieldAddr (off := 1) (by kernel_rfl) rfl) ?_
      first | refine RW.q 9 rfl rfl (by kernel_rfl) Sub.any (Qt.load (by kernel_rfl) rfl rfl) ?_ | refine RW.q 9 rfl rfl (by kernel_rfl) Sub.any (Qt.load (by kernel_rfl) rfl (map_at _ _ _ (by omega))) ?_ | refine RW.q 9 rfl rfl (by kernel_rfl) Sub.any (Qt.load (by kernel_rfl) rfl (flat_cell0 _ _ _ (by intros; rfl) _ (by omega) (by rfl))) ?_ | refine RW.q 9 rfl rfl (by kernel_rfl) Sub.any (Qt.load (by kernel_rfl) rfl (flat_cell _ _ _ (by intros; rfl) _ _ (by omega) (by rfl))) ?_ | refine RW.q 9 rfl rfl (by kernel_rfl) Sub.any (Qt.load (by kernel_rfl) rfl (bytes_at _ _ (by omega))) ?_
      refine RW.q 10 rfl rfl (by kernel_rfl) Sub.any (Qt.move rfl) ?_
      refine RW.q 11 rfl rfl (by kernel_rfl) Sub.any (Qt.sub (r := (M1.length : Int)) rfl rfl (by rw [wr64 (by simp only [List.length_append, List.length_singleton]; omega) (by simp only [List.length_append, List.length_singleton] at hll ⊢; omega)]; simp)) ?_
      refine RW.q 12 rfl rfl (by kernel_rfl) Sub.any (Qt.move rfl) ?_
      refine RW.q 13 rfl rfl (by kernel_rfl) Sub.any (Qt.nilCheck rfl) ?_
      refine RW.q 14 rfl rfl (by kernel_rfl) Sub.any (Qt.fieldAddr0 (by kernel_rfl) rfl) ?_
      refine RW.q 15 rfl rfl (by kernel_rfl) Sub.any (Qt.load (v := .slice (some ⟨bl, ol, none⟩) (LT.nd h lq).kv.length (LT.nd h lq).kc) (by kernel_rfl) rfl (by rw [← hlka]; rfl)) ?_
      refine RW.q 16 rfl rfl (by kernel_rfl) Sub.any (Qt.move rfl) ?_
      refine RW.q 17 rfl rfl (by kernel_rfl) Sub.any (Qt.index av.length (e := 9) (sz := 1) (by kernel_rfl) rfl rfl rfl (by omega)) ?_
      refine RW.q 18 rfl rfl (by kernel_rfl) Sub.any (Qt.loadW (v := kT e.1) (by kernel_rfl) rfl (fun w ho => by have := hcl av.length (by simp; omega) w (ho.map Sub.any); simpa [hae] using this)) ?_
      refine RW.q 19 rfl rfl (by kernel_rfl) Sub.any (Qt.move rfl) ?_
      refine RW.q 20 rfl rfl (by kernel_rfl) Sub.any (Qt.nilCheck rfl) ?_
      refine RW.q 21 rfl rfl (by kernel_rfl) Sub.any (Qt.fieldAddr (off := 1) (by kernel_rfl) rfl) ?_
      refine RW.q 22 rfl rfl (by kernel_rfl) Sub.any (Qt.load (v := .slice (some ⟨bw, ow, none⟩) (LT.nd h lq).kv.length (LT.nd h lq).vc) (by kernel_rfl) rfl (by rw [← hlva]; rfl)) ?_
      refine RW.q 23 rfl rfl (by kernel_rfl) Sub.any (Qt.move rfl) ?_
      refine RW.q 24 rfl rfl (by kernel_rfl) Sub.any (Qt.index av.length (e := 2) (sz := 1) (by kernel_rfl) rfl rfl rfl (by omega)) ?_
      refine RW.q 25 rfl rfl (by kernel_rfl) Sub.any (Qt.loadW (v := iV e.2) (by kernel_rfl) rfl (fun w ho => by have := hcw av.length (by simp; omega) w (ho.map Sub.any); simpa [hae] using this)) ?_
      refine RW.q 26 rfl rfl (by kernel_rfl) Sub.any (Qt.index M1.length (e := 9) (sz := 1) (by kernel_rfl) rfl rfl rfl hml) ?_
      refine RW.one 27 (by kernel_rfl) ?_
      refine RO.eS0 rfl rfl (Ef.store1 (by kernel_rfl) rfl rfl rfl (by first | (simp; done) | (simp; omega)) ?_)
      try simp only [List.set_cons_zero, List.set_cons_succ]
      refine ⟨Sub.any, ?_⟩
      refine RW.done (by rfl) ?_
      simp only [List.drop_succ_cons, List.drop_zero, List.drop_nil]
      refine LW.q rfl (Qt.index M1.length (e := 2) (sz := 1) (by kernel_rfl) rfl rfl rfl hml) ?_
      refine LW.e0 rfl (Ef.store1 (by kernel_rfl) rfl rfl rfl (by first | (simp; done) | (simp; omega)) ?_)
      try simp only [List.set_cons_zero, List.set_cons_succ]
      refine LW.done ?_
      refine T.seq ?_
      refine T.draw 17 ([]) (by kernel_rfl) (Nat.le_of_ble_eq_true rfl) (by kernel_rfl) ?_
      refine RW.q 0 rfl rfl (by kernel_rfl) Sub.any (Qt.move rfl) ?_
      refine RW.q 1 rfl rfl (by kernel_rfl) Sub.any (Qt.move rfl) ?_
      refine RW.q 2 rfl rfl (by kernel_rfl) Sub.any (Qt.move rfl) ?_
      refine RW.q 3 rfl rfl (by kernel_rfl) Sub.any (Qt.nilCheck rfl) ?_
      refine RW.q 4 rfl rfl (by kernel_rfl) Sub.any (Qt.fieldAddr0 (by kernel_rfl) rfl) ?_
      refine RW.q 6 rfl rfl (by kernel_rfl) Sub.any (Qt.move rfl) ?_
      refine RW.q 8 rfl rfl (by kernel_rfl) Sub.any (Qt.move rfl) ?_
      refine RW.q 9 rfl rfl (by kernel_rfl) Sub.any (Qt.nilCheck rfl) ?_
      refine RW.q 10 rfl rfl (by kernel_rfl) Sub.any (Qt.fieldAddr (off := 1) (by kernel_rfl) rfl) ?_
      refine RW.q 12 rfl rfl (by kernel_rfl) Sub.any (Qt.move rfl) ?_
      refine RW.all [5, 11] (by kernel_rfl) (List.forall_mem_cons.2 ⟨?_, List.forall_mem_cons.2 ⟨?_, List.forall_mem_nil _⟩⟩)
      ·
       first | refine RO.eS rfl rfl (Ef.qt (Qt.load (by kernel_rfl) rfl rfl) ?_) | refine RO.eS rfl rfl (Ef.qt (Qt.load (by kernel_rfl) rfl (map_at _ _ _ (by omega))) ?_) | refine RO.eS rfl rfl (Ef.qt (Qt.load (by kernel_rfl) rfl (flat_cell0 _ _ _ (by intros; rfl) _ (by omega) (by rfl))) ?_) | refine RO.eS rfl rfl (Ef.qt (Qt.load (by kernel_rfl) rfl (flat_cell _ _ _ (by intros; rfl) _ _ (by omega) (by rfl))) ?_) | refine RO.eS rfl rfl (Ef.qt (Qt.load (by kernel_rfl) rfl (bytes_at _ _ (by omega))) ?_)
       refine ⟨Sub.any, ?_⟩
       refine RW.q 7 rfl rfl (by kernel_rfl) Sub.any (Qt.slice_nsn av.length (e := 9) (sz := 1) (by kernel_rfl) rfl rfl rfl (by omega)) ?_
       refine RW.one 11 (by kernel_rfl) ?_
       first | refine RO.eS rfl rfl (Ef.qt (Qt.load (by kernel_rfl) rfl rfl) ?_) | refine RO.eS rfl rfl (Ef.qt (Qt.load (by kernel_rfl) rfl (map_at _ _ _ (by omega))) ?_) | refine RO.eS rfl rfl (Ef.qt (Qt.load (by kernel_rfl) rfl (flat_cell0 _ _ _ (by intros; rfl) _ (by omega) (by rfl))) ?_) | refine RO.eS rfl rfl (Ef.qt (Qt.load (by kernel_rfl) rfl (flat_cell _ _ _ (by intros; rfl) _ _ (by omega) (by rfl))) ?_) | refine RO.eS rfl rfl (Ef.qt (Qt.load (by kernel_rfl) rfl (bytes_at _ _ (by omega))) ?_)
       refine ⟨Sub.any, ?_⟩
       refine RW.q 13 rfl rfl (by kernel_rfl) Sub.any (Qt.slice_nsn av.length (e := 2) (sz := 1) (by kernel_rfl) rfl rfl rfl (by omega)) ?_
       refine RW.q 14 rfl rfl (by kernel_rfl) Sub.any (Qt.nilCheck rfl) ?_
       refine RW.q 15 rfl rfl (by kernel_rfl) Sub.any (Qt.fieldAddr0 (by kernel_rfl) rfl) ?_
       refine RW.one 16 (by kernel_rfl) ?_
       refine RO.eS0 rfl rfl (Ef.store1 (by kernel_rfl) rfl rfl rfl (by first | (simp; done) | (simp; omega)) ?_)
       try simp only [List.set_cons_zero, List.set_cons_succ]
       refine ⟨Sub.any, ?_⟩
       refine RW.done (by rfl) ?_
       simp only [List.drop_succ_cons, List.drop_zero, List.drop_nil]
       refine LW.q rfl (Qt.nilCheck rfl) ?_
       refine LW.q rfl (Qt.fieldAddr (off := 1) (by kernel_rfl) rfl) ?_
       refine LW.e0 rfl (Ef.store1 (by kernel_rfl) rfl rfl rfl (by first | (simp; done) | (simp; omega)) ?_)
       try simp only [List.set_cons_zero, List.set_cons_succ]
       refine LW.done ?_
       refine T.seq ?_
       refine T.seq ?_
       refine T.region ?_
       refine LW.q rfl (Qt.move rfl) ?_
       refine LW.e rfl (Ef.call (Bt.leaf B ⟨(LT.nd h lq).p, av, (LT.nd h lq).ka, (LT.nd h lq).kc, (LT.nd h lq).va, (LT.nd h lq).vc, (LT.nd h lq).ca, (LT.nd h lq).cc⟩ ((LT.ksL h lq).map fun k => (LK.nd h k).p).length) Try.func45 rfl rfl rfl ?_)
       rintro _ _ ⟨rfl, rfl⟩
       try simp only [List.cons_append, List.nil_append]
       first | refine LW.q rfl (Qt.notP rfl) ?_ | refine LW.q rfl (Qt.notB rfl) ?_
       refine LW.done ?_
       refine T.condP rfl (fun hnl => ?_) (fun hnl => ?_)
       ·
        have hkk := hklq.2.2.1.resolve_left (fun e => by subst e; cases hq : LT.ksL 0 lq with | nil => rw [hq] at hnl; simp at hnl | cons e _ => exact e.elim)
        have hdr : (LT.ksL h lq).drop (LT.nd h lq).kv.length = [(LT.ksL h lq)[(LT.nd h lq).kv.length]'(by omega)] := by rw [List.drop_eq_getElem_cons (by omega), List.drop_of_length_le (by omega)]
        obtain ⟨bn, on, hlca, hcn⟩ := (RdV.cs (B := B) hpc).at (by rw [List.length_map]; omega)
        refine T.seq ?_
        refine T.draw 15 ([cellA (LT.nd h q).p 2 (.slice (LT.nd h q).ca ((LT.ksL h q).map fun k => (LK.nd h k).p).length (LT.nd h q).cc), cellA (LT.nd h lq).p 2 (.slice (LT.nd h lq).ca ((LT.ksL h lq).map fun k => (LK.nd h k).p).length (LT.nd h lq).cc), ndC (LT.nd h lq) ((LT.ksL h lq).map fun k => (LK.nd h k).p)]) (by kernel_rfl) (Nat.le_of_ble_eq_true rfl) (by kernel_rfl) ?_
        refine RW.q 0 rfl rfl (by kernel_rfl) Sub.any (Qt.move rfl) ?_
        refine RW.q 1 rfl rfl (by kernel_rfl) Sub.any (Qt.move rfl) ?_
        refine RW.q 2 rfl rfl (by kernel_rfl) Sub.any (Qt.nilCheck rfl) ?_
        refine RW.q 3 rfl rfl (by kernel_rfl) Sub.any (Qt.fieldAddr (off := 2) (by kernel_rfl) rfl) ?_
        refine RW.q 4 rfl rfl (by kernel_rfl) Sub.any (Qt.loadC (by kernel_rfl) rfl rfl) ?_
        refine RW.q 5 rfl rfl (by kernel_rfl) Sub.any (Qt.move rfl) ?_
        refine RW.q 6 rfl rfl (by kernel_rfl) Sub.any (Qt.nilCheck rfl) ?_
        refine RW.q 7 rfl rfl (by kernel_rfl) Sub.any (Qt.fieldAddr (off := 2) (by kernel_rfl) rfl) ?_
        refine RW.q 8 rfl rfl (by kernel_rfl) Sub.any (Qt.loadC (v := .slice (some ⟨bn, on, none⟩) ((LT.ksL h lq).map fun k => (LK.nd h k).p).length (LT.nd h lq).cc) (by kernel_rfl) rfl (by rw [hlca])) ?_
        refine RW.q 9 rfl rfl (by kernel_rfl) Sub.any (Qt.move rfl) ?_
        refine RW.q 10 rfl rfl (by kernel_rfl) Sub.any (Qt.add (r := ((av.length + 1 : Nat) : Int)) rfl rfl (by rw [wr64 (by omega) (by omega)]; omega)) ?_
        refine RW.q 11 rfl rfl (by kernel_rfl) Sub.any (Qt.index (av.length + 1) (e := 95) (sz := 1) (by kernel_rfl) rfl rfl rfl (by rw [List.length_map]; omega)) ?_
        refine RW.q 12 rfl rfl (by kernel_rfl) Sub.any (Qt.loadW (v := pV (LK.nd h ((LT.ksL h lq)[(LT.nd h lq).kv.length]'(by omega))).p) (by kernel_rfl) rfl (fun w ho => by have := hcn (av.length + 1) (by simp; omega) w (ho.map Sub.any); rw [List.getElem_map, List.getElem_map] at this; simp only [hla]; exact this)) ?_
        refine RW.one 13 (by kernel_rfl) ?_
        refine RO.eS rfl rfl (Ef.one [_] (e := 95) (sz := 1) (by kernel_rfl) ⟨.pointer none, by kernel_rfl, rfl⟩ rfl rfl rfl (by omega) (by omega) ?_)
        intro g162
        refine ⟨Sub.any, ?_⟩
        refine RW.one 14 (by kernel_rfl) ?_
        refine RO.r rfl rfl (by kernel_rfl) (Ef.call (Lb.insertN B (LT.nd h q).ca ((LT.ksL h q).map fun k => (LK.nd h k).p).length (LT.nd h q).cc 0 g162 (((LT.ksL h q).map fun k => (LK.nd h k).p).map pV) (pV (LK.nd h ((LT.ksL h lq)[(LT.nd h lq).kv.length]'(by omega))).p) (by simp) (Nat.zero_le _) (by have := hkq.ksl (by omega); rw [List.length_map]; omega) rfl one_pV) Try.func71 rfl rfl rfl ?_)
        rintro _ _ ⟨p7, c7, rfl, ⟨h7, rfl⟩, rfl⟩
        try simp only [List.cons_append, List.nil_append]
        refine RW.done (by rfl) ?_
        simp only [List.drop_succ_cons, List.drop_zero, List.drop_nil]
        refine LW.q rfl (Qt.nilCheck rfl) ?_
        refine LW.q rfl (Qt.fieldAddr (off := 2) (by kernel_rfl) rfl) ?_
        refine LW.e0 rfl (Ef.store1 (by kernel_rfl) rfl rfl rfl (by first | (simp; done) | (simp; omega)) ?_)
        try simp only [List.set_cons_zero, List.set_cons_succ]
        refine LW.done ?_
        refine T.region ?_
        refine LW.q rfl (Qt.move rfl) ?_
        refine LW.q rfl (Qt.move rfl) ?_
        refine LW.q rfl (Qt.nilCheck rfl) ?_
        refine LW.q rfl (Qt.fieldAddr (off := 2) (by kernel_rfl) rfl) ?_
        first | refine LW.q rfl (Qt.load (by kernel_rfl) rfl rfl) ?_ | refine LW.q rfl (Qt.load (by kernel_rfl) rfl (map_at _ _ _ (by omega))) ?_ | refine LW.q rfl (Qt.load (by kernel_rfl) rfl (flat_cell0 _ _ _ (by intros; rfl) _ (by omega) (by rfl))) ?_ | refine LW.q rfl (Qt.load (by kernel_rfl) rfl (flat_cell _ _ _ (by intros; rfl) _ _ (by omega) (by rfl))) ?_ | refine LW.q rfl (Qt.load (by kernel_rfl) rfl (bytes_at _ _ (by omega))) ?_
        refine LW.q rfl (Qt.move rfl) ?_
        refine LW.q rfl (Qt.add (r := ((av.length + 1 : Nat) : Int)) rfl rfl (by rw [wr64 (by omega) (by omega)]; omega)) ?_
        refine LW.q rfl (Qt.slice_nsn (av.length + 1) (e := 95) (sz := 1) (by kernel_rfl) rfl rfl rfl (by show _ ≤ (LT.nd h lq).cc; rw [List.length_map] at hlcc; omega)) ?_
        refine LW.q rfl (Qt.nilCheck rfl) ?_
        refine LW.q rfl (Qt.fieldAddr (off := 2) (by kernel_rfl) rfl) ?_
        refine LW.e0 rfl (Ef.store1 (by kernel_rfl) rfl rfl rfl (by first | (simp; done) | (simp; omega)) ?_)
        try simp only [List.set_cons_zero, List.set_cons_succ]
        refine LW.done ?_
        refine T.seq ?_
        refine T.region ?_
        refine LW.q rfl (Qt.move rfl) ?_
        refine LW.q rfl (Qt.assign rfl) ?_
        refine LW.done ?_
        refine T.ret ?_
        exact ⟨.inl rfl, _, _, res [_] rfl ⟨rvT rfl, trivial⟩, (fill_left (x' := ⟨x.p, x.kv.set M1.length e, some ⟨bk, 0, none⟩, x.kc, some ⟨bv, 0, none⟩, x.vc, some ⟨bc, 0, none⟩, x.cc⟩) (y := ⟨(LT.nd h lq).p, av, (LT.nd h lq).ka, (LT.nd h lq).kc, (LT.nd h lq).va, (LT.nd h lq).vc, (LT.nd h lq).ca, (LT.nd h lq).cc⟩) (z := ⟨(LT.nd h q).p, sk :: (LT.nd h q).kv, some ⟨h5, 0, none⟩, c5, some ⟨h6, 0, none⟩, c6, some ⟨h7, 0, none⟩, c7⟩) (by rw [← eL]; exact hok.mono (Nat.zero_le _)) hs rfl rfl hae rfl rfl hqe (by omega) ho), (fun k K => fl_end (av := av) (p5 := some ⟨h5, 0, none⟩) (c5 := c5) (p6 := some ⟨h6, 0, none⟩) (c6 := c6) (p7 := some ⟨h7, 0, none⟩) (c7 := c7) (x := x) hka hva hca hs hae (m1 := av.length + 1) (by rw [List.length_take, hla]; omega) (m2 := ((LT.ksL h q).map fun k => (LK.nd h k).p).length + 1) (by rw [hdr]; simp <;> omega) (bps := List.take 0 (((LT.ksL h q).map fun k => (LK.nd h k).p).map pV) ++ pV (LK.nd h ((LT.ksL h lq)[(LT.nd h lq).kv.length]'(by omega))).p :: ((LT.ksL h q).map fun k => (LK.nd h k).p).map pV) (by rw [hdr]; simp) (Sub.any k K))⟩
       ·
        have hnl0 : (LT.ksL h lq) = [] := List.eq_nil_of_length_eq_zero (by simp at hnl; simp [hnl])
        refine T.skip ?_
        refine T.seq ?_
        refine T.region ?_
        refine LW.q rfl (Qt.move rfl) ?_
        refine LW.q rfl (Qt.assign rfl) ?_
        refine LW.done ?_
        refine T.ret ?_
        exact ⟨.inl rfl, _, _, res [_] rfl ⟨rvT rfl, trivial⟩, (fill_left (x' := ⟨x.p, x.kv.set M1.length e, some ⟨bk, 0, none⟩, x.kc, some ⟨bv, 0, none⟩, x.vc, some ⟨bc, 0, none⟩, x.cc⟩) (y := ⟨(LT.nd h lq).p, av, (LT.nd h lq).ka, (LT.nd h lq).kc, (LT.nd h lq).va, (LT.nd h lq).vc, (LT.nd h lq).ca, (LT.nd h lq).cc⟩) (z := ⟨(LT.nd h q).p, sk :: (LT.nd h q).kv, some ⟨h5, 0, none⟩, c5, some ⟨h6, 0, none⟩, c6, (LT.nd h q).ca, (LT.nd h q).cc⟩) (by rw [← eL]; exact hok.mono (Nat.zero_le _)) hs rfl rfl hae rfl rfl hqe (by omega) ho), (fun k K => fl_end (av := av) (p5 := some ⟨h5, 0, none⟩) (c5 := c5) (p6 := some ⟨h6, 0, none⟩) (c6 := c6) (p7 := (LT.nd h q).ca) (c7 := (LT.nd h q).cc) (x := x) hka hva hca hs hae (m1 := ((LT.ksL h lq).map fun k => (LK.nd h k).p).length) (by rw [hnl0]; simp) (m2 := ((LT.ksL h q).map fun k => (LK.nd h k).p).length) (by rw [hnl0]; simp) (bps := ((LT.ksL h q).map fun k => (LK.nd h k).p).map pV) (by rw [hnl0]; simp) (Sub.any k K))⟩
      ·
       first | refine RO.eS rfl rfl (Ef.qt (Qt.load (by kernel_rfl) rfl rfl) ?_) | refine RO.eS rfl rfl (Ef.qt (Qt.load (by kernel_rfl) rfl (map_at _ _ _ (by omega))) ?_) | refine RO.eS rfl rfl (Ef.qt (Qt.load (by kernel_rfl) rfl (flat_cell0 _ _ _ (by intros; rfl) _ (by omega) (by rfl))) ?_) | refine RO.eS rfl rfl (Ef.qt (Qt.load (by kernel_rfl) rfl (flat_cell _ _ _ (by intros; rfl) _ _ (by omega) (by rfl))) ?_) | refine RO.eS rfl rfl (Ef.qt (Qt.load (by kernel_rfl) rfl (bytes_at _ _ (by omega))) ?_)
       refine ⟨Sub.any, ?_⟩
       refine RW.q 13 rfl rfl (by kernel_rfl) Sub.any (Qt.slice_nsn av.length (e := 2) (sz := 1) (by kernel_rfl) rfl rfl rfl (by omega)) ?_
       refine RW.one 5 (by kernel_rfl) ?_
       first | refine RO.eS rfl rfl (Ef.qt (Qt.load (by kernel_rfl) rfl rfl) ?_) | refine RO.eS rfl rfl (Ef.qt (Qt.load (by kernel_rfl) rfl (map_at _ _ _ (by omega))) ?_) | refine RO.eS rfl rfl (Ef.qt (Qt.load (by kernel_rfl) rfl (flat_cell0 _ _ _ (by intros; rfl) _ (by omega) (by rfl))) ?_) | refine RO.eS rfl rfl (Ef.qt (Qt.load (by kernel_rfl) rfl (flat_cell _ _ _ (by intros; rfl) _ _ (by omega) (by rfl))) ?_) | refine RO.eS rfl rfl (Ef.qt (Qt.load (by kernel_rfl) rfl (bytes_at _ _ (by omega))) ?_)
       refine ⟨Sub.any, ?_⟩
       refine RW.q 7 rfl rfl (by kernel_rfl) Sub.any (Qt.slice_nsn av.length (e := 9) (sz := 1) (by kernel_rfl) rfl rfl rfl (by omega)) ?_
       refine RW.q 14 rfl rfl (by kernel_rfl) Sub.any (Qt.nilCheck rfl) ?_
       refine RW.q 15 rfl rfl (by kernel_rfl) Sub.any (Qt.fieldAddr0 (by kernel_rfl) rfl) ?_
       refine RW.one 16 (by kernel_rfl) ?_
       refine RO.eS0 rfl rfl (Ef.store1 (by kernel_rfl) rfl rfl rfl (by first | (simp; done) | (simp; omega)) ?_)
       try simp only [List.set_cons_zero, List.set_cons_succ]
       refine ⟨Sub.any, ?_⟩
       refine RW.done (by rfl) ?_
       simp only [List.drop_succ_cons, List.drop_zero, List.drop_nil]
       refine LW.q rfl (Qt.nilCheck rfl) ?_
       refine LW.q rfl (Qt.fieldAddr (off := 1) (by kernel_rfl) rfl) ?_
       refine LW.e0 rfl (Ef.store1 (by kernel_rfl) rfl rfl rfl (by first | (simp; done) | (simp; omega)) ?_)
       try simp only [List.set_cons_zero, List.set_cons_succ]
       refine LW.done ?_
       refine T.seq ?_
       refine T.seq ?_
       refine T.region ?_
       refine LW.q rfl (Qt.move rfl) ?_
       refine LW.e rfl (Ef.call (Bt.leaf B ⟨(LT.nd h lq).p, av, (LT.nd h lq).ka, (LT.nd h lq).kc, (LT.nd h lq).va, (LT.nd h lq).vc, (LT.nd h lq).ca, (LT.nd h lq).cc⟩ ((LT.ksL h lq).map fun k => (LK.nd h k).p).length) Try.func45 rfl rfl rfl ?_)
       rintro _ _ ⟨rfl, rfl⟩
       try simp only [List.cons_append, List.nil_append]
       first | refine LW.q rfl (Qt.notP rfl) ?_ | refine LW.q rfl (Qt.notB rfl) ?_
       refine LW.done ?_
       refine T.condP rfl (fun hnl => ?_) (fun hnl => ?_)
       ·
        have hkk := hklq.2.2.1.resolve_left (fun e => by subst e; cases hq : LT.ksL 0 lq with | nil => rw [hq] at hnl; simp at hnl | cons e _ => exact e.elim)
        have hdr : (LT.ksL h lq).drop (LT.nd h lq).kv.length = [(LT.ksL h lq)[(LT.nd h lq).kv.length]'(by omega)] := by rw [List.drop_eq_getElem_cons (by omega), List.drop_of_length_le (by omega)]
        obtain ⟨bn, on, hlca, hcn⟩ := (RdV.cs (B := B) hpc).at (by rw [List.length_map]; omega)
        refine T.seq ?_
        refine T.draw 15 ([cellA (LT.nd h q).p 2 (.slice (LT.nd h q).ca ((LT.ksL h q).map fun k => (LK.nd h k).p).length (LT.nd h q).cc), cellA (LT.nd h lq).p 2 (.slice (LT.nd h lq).ca ((LT.ksL h lq).map fun k => (LK.nd h k).p).length (LT.nd h lq).cc), ndC (LT.nd h lq) ((LT.ksL h lq).map fun k => (LK.nd h k).p)]) (by kernel_rfl) (Nat.le_of_ble_eq_true rfl) (by kernel_rfl) ?_
        refine RW.q 0 rfl rfl (by kernel_rfl) Sub.any (Qt.move rfl) ?_
        refine RW.q 1 rfl rfl (by kernel_rfl) Sub.any (Qt.move rfl) ?_
        refine RW.q 2 rfl rfl (by kernel_rfl) Sub.any (Qt.nilCheck rfl) ?_
        refine RW.q 3 rfl rfl (by kernel_rfl) Sub.any (Qt.fieldAddr (off := 2) (by kernel_rfl) rfl) ?_
        refine RW.q 4 rfl rfl (by kernel_rfl) Sub.any (Qt.loadC (by kernel_rfl) rfl rfl) ?_
        refine RW.q 5 rfl rfl (by kernel_rfl) Sub.any (Qt.move rfl) ?_
        refine RW.q 6 rfl rfl (by kernel_rfl) Sub.any (Qt.nilCheck rfl) ?_
        refine RW.q 7 rfl rfl (by kernel_rfl) Sub.any (Qt.fieldAddr (off := 2) (by kernel_rfl) rfl) ?_
        refine RW.q 8 rfl rfl (by kernel_rfl) Sub.any (Qt.loadC (v := .slice (some ⟨bn, on, none⟩) ((LT.ksL h lq).map fun k => (LK.nd h k).p).length (LT.nd h lq).cc) (by kernel_rfl) rfl (by rw [hlca])) ?_
        refine RW.q 9 rfl rfl (by kernel_rfl) Sub.any (Qt.move rfl) ?_
        refine RW.q 10 rfl rfl (by kernel_rfl) Sub.any (Qt.add (r := ((av.length + 1 : Nat) : Int)) rfl rfl (by rw [wr64 (by omega) (by omega)]; omega)) ?_
        refine RW.q 11 rfl rfl (by kernel_rfl) Sub.any (Qt.index (av.length + 1) (e := 95) (sz := 1) (by kernel_rfl) rfl rfl rfl (by rw [List.length_map]; omega)) ?_
        refine RW.q 12 rfl rfl (by kernel_rfl) Sub.any (Qt.loadW (v := pV (LK.nd h ((LT.ksL h lq)[(LT.nd h lq).kv.length]'(by omega))).p) (by kernel_rfl) rfl (fun w ho => by have := hcn (av.length + 1) (by simp; omega) w (ho.map Sub.any); rw [List.getElem_map, List.getElem_map] at this; simp only [hla]; exact this)) ?_
        refine RW.one 13 (by kernel_rfl) ?_
        refine RO.eS rfl rfl (Ef.one [_] (e := 95) (sz := 1) (by kernel_rfl) ⟨.pointer none, by kernel_rfl, rfl⟩ rfl rfl rfl (by omega) (by omega) ?_)
        intro g162
        refine ⟨Sub.any, ?_⟩
        refine RW.one 14 (by kernel_rfl) ?_
        refine RO.r rfl rfl (by kernel_rfl) (Ef.call (Lb.insertN B (LT.nd h q).ca ((LT.ksL h q).map fun k => (LK.nd h k).p).length (LT.nd h q).cc 0 g162 (((LT.ksL h q).map fun k => (LK.nd h k).p).map pV) (pV (LK.nd h ((LT.ksL h lq)[(LT.nd h lq).kv.length]'(by omega))).p) (by simp) (Nat.zero_le _) (by have := hkq.ksl (by omega); rw [List.length_map]; omega) rfl one_pV) Try.func71 rfl rfl rfl ?_)
        rintro _ _ ⟨p7, c7, rfl, ⟨h7, rfl⟩, rfl⟩
        try simp only [List.cons_append, List.nil_append]
        refine RW.done (by rfl) ?_
        simp only [List.drop_succ_cons, List.drop_zero, List.drop_nil]
        refine LW.q rfl (Qt.nilCheck rfl) ?_
        refine LW.q rfl (Qt.fieldAddr (off := 2) (by kernel_rfl) rfl) ?_
        refine LW.e0 rfl (Ef.store1 (by kernel_rfl) rfl rfl rfl (by first | (simp; done) | (simp; omega)) ?_)
        try simp only [List.set_cons_zero, List.set_cons_succ]
        refine LW.done ?_
        refine T.region ?_
        refine LW.q rfl (Qt.move rfl) ?_
        refine LW.q rfl (Qt.move rfl) ?_
        refine LW.q rfl (Qt.nilCheck rfl) ?_
        refine LW.q rfl (Qt.fieldAddr (off := 2) (by kernel_rfl) rfl) ?_
        first | refine LW.q rfl (Qt.load (by kernel_rfl) rfl rfl) ?_ | refine LW.q rfl (Qt.load (by kernel_rfl) rfl (map_at _ _ _ (by omega))) ?_ | refine LW.q rfl (Qt.load (by kernel_rfl) rfl (flat_cell0 _ _ _ (by intros; rfl) _ (by omega) (by rfl))) ?_ | refine LW.q rfl (Qt.load (by kernel_rfl) rfl (flat_cell _ _ _ (by intros; rfl) _ _ (by omega) (by rfl))) ?_ | refine LW.q rfl (Qt.load (by kernel_rfl) rfl (bytes_at _ _ (by omega))) ?_
        refine LW.q rfl (Qt.move rfl) ?_
        refine LW.q rfl (Qt.add (r := ((av.length + 1 : Nat) : Int)) rfl rfl (by rw [wr64 (by omega) (by omega)]; omega)) ?_
        refine LW.q rfl (Qt.slice_nsn (av.length + 1) (e := 95) (sz := 1) (by kernel_rfl) rfl rfl rfl (by show _ ≤ (LT.nd h lq).cc; rw [List.length_map] at hlcc; omega)) ?_
        refine LW.q rfl (Qt.nilCheck rfl) ?_
        refine LW.q rfl (Qt.fieldAddr (off := 2) (by kernel_rfl) rfl) ?_
        refine LW.e0 rfl (Ef.store1 (by kernel_rfl) rfl rfl rfl (by first | (simp; done) | (simp; omega)) ?_)
        try simp only [List.set_cons_zero, List.set_cons_succ]
        refine LW.done ?_
        refine T.seq ?_
        refine T.region ?_
        refine LW.q rfl (Qt.move rfl) ?_
        refine LW.q rfl (Qt.assign rfl) ?_
        refine LW.done ?_
        refine T.ret ?_
        exact ⟨.inl rfl, _, _, res [_] rfl ⟨rvT rfl, trivial⟩, (fill_left (x' := ⟨x.p, x.kv.set M1.length e, some ⟨bk, 0, none⟩, x.kc, some ⟨bv, 0, none⟩, x.vc, some ⟨bc, 0, none⟩, x.cc⟩) (y := ⟨(LT.nd h lq).p, av, (LT.nd h lq).ka, (LT.nd h lq).kc, (LT.nd h lq).va, (LT.nd h lq).vc, (LT.nd h lq).ca, (LT.nd h lq).cc⟩) (z := ⟨(LT.nd h q).p, sk :: (LT.nd h q).kv, some ⟨h5, 0, none⟩, c5, some ⟨h6, 0, none⟩, c6, some ⟨h7, 0, none⟩, c7⟩) (by rw [← eL]; exact hok.mono (Nat.zero_le _)) hs rfl rfl hae rfl rfl hqe (by omega) ho), (fun k K => fl_end (av := av) (p5 := some ⟨h5, 0, none⟩) (c5 := c5) (p6 := some ⟨h6, 0, none⟩) (c6 := c6) (p7 := some ⟨h7, 0, none⟩) (c7 := c7) (x := x) hka hva hca hs hae (m1 := av.length + 1) (by rw [List.length_take, hla]; omega) (m2 := ((LT.ksL h q).map fun k => (LK.nd h k).p).length + 1) (by rw [hdr]; simp <;> omega) (bps := List.take 0 (((LT.ksL h q).map fun k => (LK.nd h k).p).map pV) ++ pV (LK.nd h ((LT.ksL h lq)[(LT.nd h lq).kv.length]'(by omega))).p :: ((LT.ksL h q).map fun k => (LK.nd h k).p).map pV) (by rw [hdr]; simp) (Sub.any k K))⟩
       ·
        have hnl0 : (LT.ksL h lq) = [] := List.eq_nil_of_length_eq_zero (by simp at hnl; simp [hnl])
        refine T.skip ?_
        refine T.seq ?_
        refine T.region ?_
        refine LW.q rfl (Qt.move rfl) ?_
        refine LW.q rfl (Qt.assign rfl) ?_
        refine LW.done ?_
        refine T.ret ?_
        exact ⟨.inl rfl, _, _, res [_] rfl ⟨rvT rfl, trivial⟩, (fill_left (x' := ⟨x.p, x.kv.set M1.length e, some ⟨bk, 0, none⟩, x.kc, some ⟨bv, 0, none⟩, x.vc, some ⟨bc, 0, none⟩, x.cc⟩) (y := ⟨(LT.nd h lq).p, av, (LT.nd h lq).ka, (LT.nd h lq).kc, (LT.nd h lq).va, (LT.nd h lq).vc, (LT.nd h lq).ca, (LT.nd h lq).cc⟩) (z := ⟨(LT.nd h q).p, sk :: (LT.nd h q).kv, some ⟨h5, 0, none⟩, c5, some ⟨h6, 0, none⟩, c6, (LT.nd h q).ca, (LT.nd h q).cc⟩) (by rw [← eL]; exact hok.mono (Nat.zero_le _)) hs rfl rfl hae rfl rfl hqe (by omega) ho), (fun k K => fl_end (av := av) (p5 := some ⟨h5, 0, none⟩) (c5 := c5) (p6 := some ⟨h6, 0, none⟩) (c6 := c6) (p7 := (LT.nd h q).ca) (c7 := (LT.nd h q).cc) (x := x) hka hva hca hs hae (m1 := ((LT.ksL h lq).map fun k => (LK.nd h k).p).length) (by rw [hnl0]; simp) (m2 := ((LT.ksL h q).map fun k => (LK.nd h k).p).length) (by rw [hnl0]; simp) (bps := ((LT.ksL h q).map fun k => (LK.nd h k).p).map pV) (by rw [hnl0]; simp) (Sub.any k K))⟩
    ·
     refine RO.eS rfl rfl (Ef.one [_] (e := 2) (sz := 1) (by kernel_rfl) ⟨.int .i64 0, by kernel_rfl, rfl⟩ rfl rfl rfl (by omega) (by omega) ?_)
     intro g94
     refine ⟨Sub.any, ?_⟩
     refine RW.one 14 (by kernel_rfl) ?_
     refine RO.eS rfl rfl (Ef.one [_] (e := 9) (sz := 1) (by kernel_rfl) ⟨.string .empty, by kernel_rfl, rfl⟩ rfl rfl rfl (by omega) (by omega) ?_)
     intro g80
     refine ⟨Sub.any, ?_⟩
     refine RW.one 15 (by kernel_rfl) ?_
     refine RO.eS rfl rfl (Ef.call (Lb.insertS B (LT.nd h q).ka (LT.nd h q).kv.length (LT.nd h q).kc 0 g80 ((LT.nd h q).ks.map kT) (kT sk.1) (by simp) (Nat.zero_le _) (by omega) rfl one_kT) Try.func46 rfl rfl rfl ?_)
     rintro _ _ ⟨p5, c5, rfl, ⟨h5, rfl⟩, rfl⟩
     try simp only [List.cons_append, List.nil_append]
     refine ⟨Sub.any, ?_⟩
     refine RW.one 29 (by kernel_rfl) ?_
     refine RO.r rfl rfl (by kernel_rfl) (Ef.call (Lb.insertI B (LT.nd h q).va (LT.nd h q).kv.length (LT.nd h q).vc 0 g94 ((LT.nd h q).vs.map iV) (iV sk.2) (by simp) (Nat.zero_le _) (by omega) rfl one_iV) Try.func47 rfl rfl rfl ?_)
     rintro _ _ ⟨p6, c6, rfl, ⟨h6, rfl⟩, rfl⟩
     try simp only [List.cons_append, List.nil_append]
     refine RW.q 30 rfl rfl (by kernel_rfl) (Sub.refl _) (Qt.nilCheck rfl) ?_
     refine RW.q 31 rfl rfl (by kernel_rfl) (Sub.refl _) (Qt.fieldAddr0 (by kernel_rfl) rfl) ?_
     refine RW.one 32 (by kernel_rfl) ?_
     refine RO.r0 rfl rfl (by kernel_rfl) (Ef.store1 (by kernel_rfl) rfl rfl rfl (by first | (simp; done) | (simp; omega)) ?_)
     try simp only [List.set_cons_zero, List.set_cons_succ]
     refine RW.done (by rfl) ?_
     simp only [List.drop_succ_cons, List.drop_zero, List.drop_nil]
     refine LW.q rfl (Qt.nilCheck rfl) ?_
     refine LW.q rfl (Qt.fieldAddr (off := 1) (by kernel_rfl) rfl) ?_
     refine LW.e0 rfl (Ef.store1 (by kernel_rfl) rfl rfl rfl (by first | (simp; done) | (simp; omega)) ?_)
     try simp only [List.set_cons_zero, List.set_cons_succ]
     refine LW.done ?_
     refine T.seq ?_
     refine T.draw 28 ([xB x bk bv bc ((M1 ++ lq :: q :: L2).map fun k => (LT.nd h k).p).length, ndB (LT.nd h lq) ((LT.ksL h lq).map fun k => (LK.nd h k).p).length, ndK (LT.nd h lq), ndV (LT.nd h lq)]) (by kernel_rfl) (Nat.le_of_ble_eq_true rfl) (by kernel_rfl) ?_
     refine RW.q 0 rfl rfl (by kernel_rfl) Sub.any (Qt.move rfl) ?_
     refine RW.q 1 rfl rfl (by kernel_rfl) Sub.any (Qt.nilCheck rfl) ?_
     refine RW.q 2 rfl rfl (by kernel_rfl) Sub.any (Qt.fieldAddr0 (by kernel_rfl) rfl) ?_
     first | refine RW.q 3 rfl rfl (by kernel_rfl) Sub.any (Qt.load (by kernel_rfl) rfl rfl) ?_ | refine RW.q 3 rfl rfl (by kernel_rfl) Sub.any (Qt.load (by kernel_rfl) rfl (map_at _ _ _ (by omega))) ?_ | refine RW.q 3 rfl rfl (by kernel_rfl) Sub.any (Qt.load (by kernel_rfl) rfl (flat_cell0 _ _ _ (by intros; rfl) _ (by omega) (by rfl))) ?_ | refine RW.q 3 rfl rfl (by kernel_rfl) Sub.any (Qt.load (by kernel_rfl) rfl (flat_cell _ _ _ (by intros; rfl) _ _ (by omega) (by rfl))) ?_ | refine RW.q 3 rfl rfl (by kernel_rfl) Sub.any (Qt.load (by kernel_rfl) rfl (bytes_at _ _ (by omega))) ?_
     refine RW.q 4 rfl rfl (by kernel_rfl) Sub.any (Qt.move rfl) ?_
     refine RW.q 5 rfl rfl (by kernel_rfl) Sub.any (Qt.sub (r := (M1.length : Int)) rfl rfl (by rw [wr64 (by simp only [List.length_append, List.length_singleton]; omega) (by simp only [List.length_append, List.length_singleton] at hll ⊢; omega)]; simp)) ?_
     refine RW.q 6 rfl rfl (by kernel_rfl) Sub.any (Qt.move rfl) ?_
     refine RW.q 7 rfl rfl (by kernel_rfl) Sub.any (Qt.nilCheck rfl) ?_
     refine RW.q 8 rfl rfl (by kernel_rfl) Sub.any (Qt.fieldAddr (off := 1) (by kernel_rfl) rfl) ?_
     first | refine RW.q 9 rfl rfl (by kernel_rfl) Sub.any (Qt.load (by kernel_rfl) rfl rfl) ?_ | refine RW.q 9 rfl rfl (by kernel_rfl) Sub.any (Qt.load (by kernel_rfl) rfl (map_at _ _ _ (by omega))) ?_ | refine RW.q 9 rfl rfl (by kernel_rfl) Sub.any (Qt.load (by kernel_rfl) rfl (flat_cell0 _ _ _ (by intros; rfl) _ (by omega) (by rfl))) ?_ | refine RW.q 9 rfl rfl (by kernel_rfl) Sub.any (Qt.load (by kernel_rfl) rfl (flat_cell _ _ _ (by intros; rfl) _ _ (by omega) (by rfl))) ?_ | refine RW.q 9 rfl rfl (by kernel_rfl) Sub.any (Qt.load (by kernel_rfl) rfl (bytes_at _ _ (by omega))) ?_
     refine RW.q 10 rfl rfl (by kernel_rfl) Sub.any (Qt.move rfl) ?_
     refine RW.q 11 rfl rfl (by kernel_rfl) Sub.any (Qt.sub (r := (M1.length : Int)) rfl rfl (by rw [wr64 (by simp only [List.length_append, List.length_singleton]; omega) (by simp only [List.length_append, List.length_singleton] at hll ⊢; omega)]; simp)) ?_
     refine RW.q 12 rfl rfl (by kernel_rfl) Sub.any (Qt.move rfl) ?_
     refine RW.q 13 rfl rfl (by kernel_rfl) Sub.any (Qt.nilCheck rfl) ?_
     refine RW.q 14 rfl rfl (by kernel_rfl) Sub.any (Qt.fieldAddr0 (by kernel_rfl) rfl) ?_
     refine RW.q 15 rfl rfl (by kernel_rfl) Sub.any (Qt.load (v := .slice (some ⟨bl, ol, none⟩) (LT.nd h lq).kv.length (LT.nd h lq).kc) (by kernel_rfl) rfl (by rw [← hlka]; rfl)) ?_
     refine RW.q 16 rfl rfl (by kernel_rfl) Sub.any (Qt.move rfl) ?_
     refine RW.q 17 rfl rfl (by kernel_rfl) Sub.any (Qt.index av.length (e := 9) (sz := 1) (by kernel_rfl) rfl rfl rfl (by omega)) ?_
     refine RW.q 18 rfl rfl (by kernel_rfl) Sub.any (Qt.loadW (v := kT e.1) (by kernel_rfl) rfl (fun w ho => by have := hcl av.length (by simp; omega) w (ho.map Sub.any); simpa [hae] using this)) ?_
     refine RW.q 19 rfl rfl (by kernel_rfl) Sub.any (Qt.move rfl) ?_
     refine RW.q 20 rfl rfl (by kernel_rfl) Sub.any (Qt.nilCheck rfl) ?_
     refine RW.q 21 rfl rfl (by kernel_rfl) Sub.any (Qt.fieldAddr (off := 1) (by kernel_rfl) rfl) ?_
     refine RW.q 22 rfl rfl (by kernel_rfl) Sub.any (Qt.load (v := .slice (some ⟨bw, ow, none⟩) (LT.nd h lq).kv.length (LT.nd h lq).vc) (by kernel_rfl) rfl (by rw [← hlva]; rfl)) ?_
     refine RW.q 23 rfl rfl (by kernel_rfl) Sub.any (Qt.move rfl) ?_
     refine RW.q 24 rfl rfl (by kernel_rfl) Sub.any (Qt.index av.length (e := 2) (sz := 1) (by kernel_rfl) rfl rfl rfl (by omega)) ?_
     refine RW.q 25 rfl rfl (by kernel_rfl) Sub.any (Qt.loadW (v := iV e.2) (by kernel_rfl) rfl (fun w ho => by have := hcw av.length (by simp; omega) w (ho.map Sub.any); simpa [hae] using this)) ?_
     refine RW.q 26 rfl rfl (by kernel_rfl) Sub.any (Qt.index M1.length (e := 9) (sz := 1) (by kernel_rfl) rfl rfl rfl hml) ?_
     refine RW.one 27 (by kernel_rfl) ?_
     refine RO.eS0 rfl rfl (Ef.store1 (by kernel_rfl) rfl rfl rfl (by first | (simp; done) | (simp; omega)) ?_)
     try simp only [List.set_cons_zero, List.set_cons_succ]
     refine ⟨Sub.any, ?_⟩
     refine RW.done (by rfl) ?_
     simp only [List.drop_succ_cons, List.drop_zero, List.drop_nil]
     refine LW.q rfl (Qt.index M1.length (e := 2) (sz := 1) (by kernel_rfl) rfl rfl rfl hml) ?_
     refine LW.e0 rfl (Ef.store1 (by kernel_rfl) rfl rfl rfl (by first | (simp; done) | (simp; omega)) ?_)
     try simp only [List.set_cons_zero, List.set_cons_succ]
     refine LW.done ?_
     refine T.seq ?_
     refine T.draw 17 ([]) (by kernel_rfl) (Nat.le_of_ble_eq_true rfl) (by kernel_rfl) ?_
     refine RW.q 0 rfl rfl (by kernel_rfl) Sub.any (Qt.move rfl) ?_
     refine RW.q 1 rfl rfl (by kernel_rfl) Sub.any (Qt.move rfl) ?_
     refine RW.q 2 rfl rfl (by kernel_rfl) Sub.any (Qt.move rfl) ?_
     refine RW.q 3 rfl rfl (by kernel_rfl) Sub.any (Qt.nilCheck rfl) ?_
     refine RW.q 4 rfl rfl (by kernel_rfl) Sub.any (Qt.fieldAddr0 (by kernel_rfl) rfl) ?_
     refine RW.q 6 rfl rfl (by kernel_rfl) Sub.any (Qt.move rfl) ?_
     refine RW.q 8 rfl rfl (by kernel_rfl) Sub.any (Qt.move rfl) ?_
     refine RW.q 9 rfl rfl (by kernel_rfl) Sub.any (Qt.nilCheck rfl) ?_
     refine RW.q 10 rfl rfl (by kernel_rfl) Sub.any (Qt.fieldAddr (off := 1) (by kernel_rfl) rfl) ?_
     refine RW.q 12 rfl rfl (by kernel_rfl) Sub.any (Qt.move rfl) ?_
     refine RW.all [5, 11] (by kernel_rfl) (List.forall_mem_cons.2 ⟨?_, List.forall_mem_cons.2 ⟨?_, List.forall_mem_nil _⟩⟩)
     ·
      first | refine RO.eS rfl rfl (Ef.qt (Qt.load (by kernel_rfl) rfl rfl) ?_) | refine RO.eS rfl rfl (Ef.qt (Qt.load (by kernel_rfl) rfl (map_at _ _ _ (by omega))) ?_) | refine RO.eS rfl rfl (Ef.qt (Qt.load (by kernel_rfl) rfl (flat_cell0 _ _ _ (by intros; rfl) _ (by omega) (by rfl))) ?_) | refine RO.eS rfl rfl (Ef.qt (Qt.load (by kernel_rfl) rfl (flat_cell _ _ _ (by intros; rfl) _ _ (by omega) (by rfl))) ?_) | refine RO.eS rfl rfl (Ef.qt (Qt.load (by kernel_rfl) rfl (bytes_at _ _ (by omega))) ?_)
      refine ⟨Sub.any, ?_⟩
      refine RW.q 7 rfl rfl (by kernel_rfl) Sub.any (Qt.slice_nsn av.length (e := 9) (sz := 1) (by kernel_rfl) rfl rfl rfl (by omega)) ?_
      refine RW.one 11 (by kernel_rfl) ?_
      first | refine RO.eS rfl rfl (Ef.qt (Qt.load (by kernel_rfl) rfl rfl) ?_) | refine RO.eS rfl rfl (Ef.qt (Qt.load (by kernel_rfl) rfl (map_at _ _ _ (by omega))) ?_) | refine RO.eS rfl rfl (Ef.qt (Qt.load (by kernel_rfl) rfl (flat_cell0 _ _ _ (by intros; rfl) _ (by omega) (by rfl))) ?_) | refine RO.eS rfl rfl (Ef.qt (Qt.load (by kernel_rfl) rfl (flat_cell _ _ _ (by intros; rfl) _ _ (by omega) (by rfl))) ?_) | refine RO.eS rfl rfl (Ef.qt (Qt.load (by kernel_rfl) rfl (bytes_at _ _ (by omega))) ?_)
      refine ⟨Sub.any, ?_⟩
      refine RW.q 13 rfl rfl (by kernel_rfl) Sub.any (Qt.slice_nsn av.length (e := 2) (sz := 1) (by kernel_rfl) rfl rfl rfl (by omega)) ?_
      refine RW.q 14 rfl rfl (by kernel_rfl) Sub.any (Qt.nilCheck rfl) ?_
      refine RW.q 15 rfl rfl (by kernel_rfl) Sub.any (Qt.fieldAddr0 (by kernel_rfl) rfl) ?_
      refine RW.one 16 (by kernel_rfl) ?_
      refine RO.eS0 rfl rfl (Ef.store1 (by kernel_rfl) rfl rfl rfl (by first | (simp; done) | (simp; omega)) ?_)
      try simp only [List.set_cons_zero, List.set_cons_succ]
      refine ⟨Sub.any, ?_⟩
      refine RW.done (by rfl) ?_
      simp only [List.drop_succ_cons, List.drop_zero, List.drop_nil]
      refine LW.q rfl (Qt.nilCheck rfl) ?_
      refine LW.q rfl (Qt.fieldAddr (off := 1) (by kernel_rfl) rfl) ?_
      refine LW.e0 rfl (Ef.store1 (by kernel_rfl) rfl rfl rfl (by first | (simp; done) | (simp; omega)) ?_)
      try simp only [List.set_cons_zero, List.set_cons_succ]
      refine LW.done ?_
      refine T.seq ?_
      refine T.seq ?_
      refine T.region ?_
      refine LW.q rfl (Qt.move rfl) ?_
      refine LW.e rfl (Ef.call (Bt.leaf B ⟨(LT.nd h lq).p, av, (LT.nd h lq).ka, (LT.nd h lq).kc, (LT.nd h lq).va, (LT.nd h lq).vc, (LT.nd h lq).ca, (LT.nd h lq).cc⟩ ((LT.ksL h lq).map fun k => (LK.nd h k).p).length) Try.func45 rfl rfl rfl ?_)
      rintro _ _ ⟨rfl, rfl⟩
      try simp only [List.cons_append, List.nil_append]
      first | refine LW.q rfl (Qt.notP rfl) ?_ | refine LW.q rfl (Qt.notB rfl) ?_
      refine LW.done ?_
      refine T.condP rfl (fun hnl => ?_) (fun hnl => ?_)
      ·
       have hkk := hklq.2.2.1.resolve_left (fun e => by subst e; cases hq : LT.ksL 0 lq with | nil => rw [hq] at hnl; simp at hnl | cons e _ => exact e.elim)
       have hdr : (LT.ksL h lq).drop (LT.nd h lq).kv.length = [(LT.ksL h lq)[(LT.nd h lq).kv.length]'(by omega)] := by rw [List.drop_eq_getElem_cons (by omega), List.drop_of_length_le (by omega)]
       obtain ⟨bn, on, hlca, hcn⟩ := (RdV.cs (B := B) hpc).at (by rw [List.length_map]; omega)
       refine T.seq ?_
       refine T.draw 15 ([cellA (LT.nd h q).p 2 (.slice (LT.nd h q).ca ((LT.ksL h q).map fun k => (LK.nd h k).p).length (LT.nd h q).cc), cellA (LT.nd h lq).p 2 (.slice (LT.nd h lq).ca ((LT.ksL h lq).map fun k => (LK.nd h k).p).length (LT.nd h lq).cc), ndC (LT.nd h lq) ((LT.ksL h lq).map fun k => (LK.nd h k).p)]) (by kernel_rfl) (Nat.le_of_ble_eq_true rfl) (by kernel_rfl) ?_
       refine RW.q 0 rfl rfl (by kernel_rfl) Sub.any (Qt.move rfl) ?_
       refine RW.q 1 rfl rfl (by kernel_rfl) Sub.any (Qt.move rfl) ?_
       refine RW.q 2 rfl rfl (by kernel_rfl) Sub.any (Qt.nilCheck rfl) ?_
       refine RW.q 3 rfl rfl (by kernel_rfl) Sub.any (Qt.fieldAddr (off := 2) (by kernel_rfl) rfl) ?_
       refine RW.q 4 rfl rfl (by kernel_rfl) Sub.any (Qt.loadC (by kernel_rfl) rfl rfl) ?_
       refine RW.q 5 rfl rfl (by kernel_rfl) Sub.any (Qt.move rfl) ?_
       refine RW.q 6 rfl rfl (by kernel_rfl) Sub.any (Qt.nilCheck rfl) ?_
       refine RW.q 7 rfl rfl (by kernel_rfl) Sub.any (Qt.fieldAddr (off := 2) (by kernel_rfl) rfl) ?_
       refine RW.q 8 rfl rfl (by kernel_rfl) Sub.any (Qt.loadC (v := .slice (some ⟨bn, on, none⟩) ((LT.ksL h lq).map fun k => (LK.nd h k).p).length (LT.nd h lq).cc) (by kernel_rfl) rfl (by rw [hlca])) ?_
       refine RW.q 9 rfl rfl (by kernel_rfl) Sub.any (Qt.move rfl) ?_
       refine RW.q 10 rfl rfl (by kernel_rfl) Sub.any (Qt.add (r := ((av.length + 1 : Nat) : Int)) rfl rfl (by rw [wr64 (by omega) (by omega)]; omega)) ?_
       refine RW.q 11 rfl rfl (by kernel_rfl) Sub.any (Qt.index (av.length + 1) (e := 95) (sz := 1) (by kernel_rfl) rfl rfl rfl (by rw [List.length_map]; omega)) ?_
       refine RW.q 12 rfl rfl (by kernel_rfl) Sub.any (Qt.loadW (v := pV (LK.nd h ((LT.ksL h lq)[(LT.nd h lq).kv.length]'(by omega))).p) (by kernel_rfl) rfl (fun w ho => by have := hcn (av.length + 1) (by simp; omega) w (ho.map Sub.any); rw [List.getElem_map, List.getElem_map] at this; simp only [hla]; exact this)) ?_
       refine RW.one 13 (by kernel_rfl) ?_
       refine RO.eS rfl rfl (Ef.one [_] (e := 95) (sz := 1) (by kernel_rfl) ⟨.pointer none, by kernel_rfl, rfl⟩ rfl rfl rfl (by omega) (by omega) ?_)
       intro g162
       refine ⟨Sub.any, ?_⟩
       refine RW.one 14 (by kernel_rfl) ?_
       refine RO.r rfl rfl (by kernel_rfl) (Ef.call (Lb.insertN B (LT.nd h q).ca ((LT.ksL h q).map fun k => (LK.nd h k).p).length (LT.nd h q).cc 0 g162 (((LT.ksL h q).map fun k => (LK.nd h k).p).map pV) (pV (LK.nd h ((LT.ksL h lq)[(LT.nd h lq).kv.length]'(by omega))).p) (by simp) (Nat.zero_le _) (by have := hkq.ksl (by omega); rw [List.length_map]; omega) rfl one_pV) Try.func71 rfl rfl rfl ?_)
       rintro _ _ ⟨p7, c7, rfl, ⟨h7, rfl⟩, rfl⟩
       try simp only [List.cons_append, List.nil_append]
       refine RW.done (by rfl) ?_
       simp only [List.drop_succ_cons, List.drop_zero, List.drop_nil]
       refine LW.q rfl (Qt.nilCheck rfl) ?_
       refine LW.q rfl (Qt.fieldAddr (off := 2) (by kernel_rfl) rfl) ?_
       refine LW.e0 rfl (Ef.store1 (by kernel_rfl) rfl rfl rfl (by first | (simp; done) | (simp; omega)) ?_)
       try simp only [List.set_cons_zero, List.set_cons_succ]
       refine LW.done ?_
       refine T.region ?_
       refine LW.q rfl (Qt.move rfl) ?_
       refine LW.q rfl (Qt.move rfl) ?_
       refine LW.q rfl (Qt.nilCheck rfl) ?_
       refine LW.q rfl (Qt.fieldAddr (off := 2) (by kernel_rfl) rfl) ?_
       first | refine LW.q rfl (Qt.load (by kernel_rfl) rfl rfl) ?_ | refine LW.q rfl (Qt.load (by kernel_rfl) rfl (map_at _ _ _ (by omega))) ?_ | refine LW.q rfl (Qt.load (by kernel_rfl) rfl (flat_cell0 _ _ _ (by intros; rfl) _ (by omega) (by rfl))) ?_ | refine LW.q rfl (Qt.load (by kernel_rfl) rfl (flat_cell _ _ _ (by intros; rfl) _ _ (by omega) (by rfl))) ?_ | refine LW.q rfl (Qt.load (by kernel_rfl) rfl (bytes_at _ _ (by omega))) ?_
       refine LW.q rfl (Qt.move rfl) ?_
       refine LW.q rfl (Qt.add (r := ((av.length + 1 : Nat) : Int)) rfl rfl (by rw [wr64 (by omega) (by omega)]; omega)) ?_
       refine LW.q rfl (Qt.slice_nsn (av.length + 1) (e := 95) (sz := 1) (by kernel_rfl) rfl rfl rfl (by show _ ≤ (LT.nd h lq).cc; rw [List.length_map] at hlcc; omega)) ?_
       refine LW.q rfl (Qt.nilCheck rfl) ?_
       refine LW.q rfl (Qt.fieldAddr (off := 2) (by kernel_rfl) rfl) ?_
       refine LW.e0 rfl (Ef.store1 (by kernel_rfl) rfl rfl rfl (by first | (simp; done) | (simp; omega)) ?_)
       try simp only [List.set_cons_zero, List.set_cons_succ]
       refine LW.done ?_
       refine T.seq ?_
       refine T.region ?_
       refine LW.q rfl (Qt.move rfl) ?_
       refine LW.q rfl (Qt.assign rfl) ?_
       refine LW.done ?_
       refine T.ret ?_
       exact ⟨.inl rfl, _, _, res [_] rfl ⟨rvT rfl, trivial⟩, (fill_left (x' := ⟨x.p, x.kv.set M1.length e, some ⟨bk, 0, none⟩, x.kc, some ⟨bv, 0, none⟩, x.vc, some ⟨bc, 0, none⟩, x.cc⟩) (y := ⟨(LT.nd h lq).p, av, (LT.nd h lq).ka, (LT.nd h lq).kc, (LT.nd h lq).va, (LT.nd h lq).vc, (LT.nd h lq).ca, (LT.nd h lq).cc⟩) (z := ⟨(LT.nd h q).p, sk :: (LT.nd h q).kv, some ⟨h5, 0, none⟩, c5, some ⟨h6, 0, none⟩, c6, some ⟨h7, 0, none⟩, c7⟩) (by rw [← eL]; exact hok.mono (Nat.zero_le _)) hs rfl rfl hae rfl rfl hqe (by omega) ho), (fun k K => fl_end (av := av) (p5 := some ⟨h5, 0, none⟩) (c5 := c5) (p6 := some ⟨h6, 0, none⟩) (c6 := c6) (p7 := some ⟨h7, 0, none⟩) (c7 := c7) (x := x) hka hva hca hs hae (m1 := av.length + 1) (by rw [List.length_take, hla]; omega) (m2 := ((LT.ksL h q).map fun k => (LK.nd h k).p).length + 1) (by rw [hdr]; simp <;> omega) (bps := List.take 0 (((LT.ksL h q).map fun k => (LK.nd h k).p).map pV) ++ pV (LK.nd h ((LT.ksL h lq)[(LT.nd h lq).kv.length]'(by omega))).p :: ((LT.ksL h q).map fun k => (LK.nd h k).p).map pV) (by rw [hdr]; simp) (Sub.any k K))⟩
      ·
       have hnl0 : (LT.ksL h lq) = [] := List.eq_nil_of_length_eq_zero (by simp at hnl; simp [hnl])
       refine T.skip ?_
       refine T.seq ?_
       refine T.region ?_
       refine LW.q rfl (Qt.move rfl) ?_
       refine LW.q rfl (Qt.assign rfl) ?_
       refine LW.done ?_
       refine T.ret ?_
       exact ⟨.inl rfl, _, _, res [_] rfl ⟨rvT rfl, trivial⟩, (fill_left (x' := ⟨x.p, x.kv.set M1.length e, some ⟨bk, 0, none⟩, x.kc, some ⟨bv, 0, none⟩, x.vc, some ⟨bc, 0, none⟩, x.cc⟩) (y := ⟨(LT.nd h lq).p, av, (LT.nd h lq).ka, (LT.nd h lq).kc, (LT.nd h lq).va, (LT.nd h lq).vc, (LT.nd h lq).ca, (LT.nd h lq).cc⟩) (z := ⟨(LT.nd h q).p, sk :: (LT.nd h q).kv, some ⟨h5, 0, none⟩, c5, some ⟨h6, 0, none⟩, c6, (LT.nd h q).ca, (LT.nd h q).cc⟩) (by rw [← eL]; exact hok.mono (Nat.zero_le _)) hs rfl rfl hae rfl rfl hqe (by omega) ho), (fun k K => fl_end (av := av) (p5 := some ⟨h5, 0, none⟩) (c5 := c5) (p6 := some ⟨h6, 0, none⟩) (c6 := c6) (p7 := (LT.nd h q).ca) (c7 := (LT.nd h q).cc) (x := x) hka hva hca hs hae (m1 := ((LT.ksL h lq).map fun k => (LK.nd h k).p).length) (by rw [hnl0]; simp) (m2 := ((LT.ksL h q).map fun k => (LK.nd h k).p).length) (by rw [hnl0]; simp) (bps := ((LT.ksL h q).map fun k => (LK.nd h k).p).map pV) (by rw [hnl0]; simp) (Sub.any k K))⟩
     ·
      first | refine RO.eS rfl rfl (Ef.qt (Qt.load (by kernel_rfl) rfl rfl) ?_) | refine RO.eS rfl rfl (Ef.qt (Qt.load (by kernel_rfl) rfl (map_at _ _ _ (by omega))) ?_) | refine RO.eS rfl rfl (Ef.qt (Qt.load (by kernel_rfl) rfl (flat_cell0 _ _ _ (by intros; rfl) _ (by omega) (by rfl))) ?_) | refine RO.eS rfl rfl (Ef.qt (Qt.load (by kernel_rfl) rfl (flat_cell _ _ _ (by intros; rfl) _ _ (by omega) (by rfl))) ?_) | refine RO.eS rfl rfl (Ef.qt (Qt.load (by kernel_rfl) rfl (bytes_at _ _ (by omega))) ?_)
      refine ⟨Sub.any, ?_⟩
      refine RW.q 13 rfl rfl (by kernel_rfl) Sub.any (Qt.slice_nsn av.length (e := 2) (sz := 1) (by kernel_rfl) rfl rfl rfl (by omega)) ?_
      refine RW.one 5 (by kernel_rfl) ?_
      first | refine RO.eS rfl rfl (Ef.qt (Qt.load (by kernel_rfl) rfl rfl) ?_) | refine RO.eS rfl rfl (Ef.qt (Qt.load (by kernel_rfl) rfl (map_at _ _ _ (by omega))) ?_) | refine RO.eS rfl rfl (Ef.qt (Qt.load (by kernel_rfl) rfl (flat_cell0 _ _ _ (by intros; rfl) _ (by omega) (by rfl))) ?_) | refine RO.eS rfl rfl (Ef.qt (Qt.load (by kernel_rfl) rfl (flat_cell _ _ _ (by intros; rfl) _ _ (by omega) (by rfl))) ?_) | refine RO.eS rfl rfl (Ef.qt (Qt.load (by kernel_rfl) rfl (bytes_at _ _ (by omega))) ?_)
      refine ⟨Sub.any, ?_⟩
      refine RW.q 7 rfl rfl (by kernel_rfl) Sub.any (Qt.slice_nsn av.length (e := 9) (sz := 1) (by kernel_rfl) rfl rfl rfl (by omega)) ?_
      refine RW.q 14 rfl rfl (by kernel_rfl) Sub.any (Qt.nilCheck rfl) ?_
      refine RW.q 15 rfl rfl (by kernel_rfl) Sub.any (Qt.fieldAddr0 (by kernel_rfl) rfl) ?_
      refine RW.one 16 (by kernel_rfl) ?_
      refine RO.eS0 rfl rfl (Ef.store1 (by kernel_rfl) rfl rfl rfl (by first | (simp; done) | (simp; omega)) ?_)
      try simp only [List.set_cons_zero, List.set_cons_succ]
      refine ⟨Sub.any, ?_⟩
      refine RW.done (by rfl) ?_
      simp only [List.drop_succ_cons, List.drop_zero, List.drop_nil]
      refine LW.q rfl (Qt.nilCheck rfl) ?_
      refine LW.q rfl (Qt.fieldAddr (off := 1) (by kernel_rfl) rfl) ?_
      refine LW.e0 rfl (Ef.store1 (by kernel_rfl) rfl rfl rfl (by first | (simp; done) | (simp; omega)) ?_)
      try simp only [List.set_cons_zero, List.set_cons_succ]
      refine LW.done ?_
      refine T.seq ?_
      refine T.seq ?_
      refine T.region ?_
      refine LW.q rfl (Qt.move rfl) ?_
      refine LW.e rfl (Ef.call (Bt.leaf B ⟨(LT.nd h lq).p, av, (LT.nd h lq).ka, (LT.nd h lq).kc, (LT.nd h lq).va, (LT.nd h lq).vc, (LT.nd h lq).ca, (LT.nd h lq).cc⟩ ((LT.ksL h lq).map fun k => (LK.nd h k).p).length) Try.func45 rfl rfl rfl ?_)
      rintro _ _ ⟨rfl, rfl⟩
      try simp only [List.cons_append, List.nil_append]
      first | refine LW.q rfl (Qt.notP rfl) ?_ | refine LW.q rfl (Qt.notB rfl) ?_
      refine LW.done ?_
      refine T.condP rfl (fun hnl => ?_) (fun hnl => ?_)
      ·
       have hkk := hklq.2.2.1.resolve_left (fun e => by subst e; cases hq : LT.ksL 0 lq with | nil => rw [hq] at hnl; simp at hnl | cons e _ => exact e.elim)
       have hdr : (LT.ksL h lq).drop (LT.nd h lq).kv.length = [(LT.ksL h lq)[(LT.nd h lq).kv.length]'(by omega)] := by rw [List.drop_eq_getElem_cons (by omega), List.drop_of_length_le (by omega)]
       obtain ⟨bn, on, hlca, hcn⟩ := (RdV.cs (B := B) hpc).at (by rw [List.length_map]; omega)
       refine T.seq ?_
       refine T.draw 15 ([cellA (LT.nd h q).p 2 (.slice (LT.nd h q).ca ((LT.ksL h q).map fun k => (LK.nd h k).p).length (LT.nd h q).cc), cellA (LT.nd h lq).p 2 (.slice (LT.nd h lq).ca ((LT.ksL h lq).map fun k => (LK.nd h k).p).length (LT.nd h lq).cc), ndC (LT.nd h lq) ((LT.ksL h lq).map fun k => (LK.nd h k).p)]) (by kernel_rfl) (Nat.le_of_ble_eq_true rfl) (by kernel_rfl) ?_
       refine RW.q 0 rfl rfl (by kernel_rfl) Sub.any (Qt.move rfl) ?_
       refine RW.q 1 rfl rfl (by kernel_rfl) Sub.any (Qt.move rfl) ?_
       refine RW.q 2 rfl rfl (by kernel_rfl) Sub.any (Qt.nilCheck rfl) ?_
       refine RW.q 3 rfl rfl (by kernel_rfl) Sub.any (Qt.fieldAddr (off := 2) (by kernel_rfl) rfl) ?_
       refine RW.q 4 rfl rfl (by kernel_rfl) Sub.any (Qt.loadC (by kernel_rfl) rfl rfl) ?_
       refine RW.q 5 rfl rfl (by kernel_rfl) Sub.any (Qt.move rfl) ?_
       refine RW.q 6 rfl rfl (by kernel_rfl) Sub.any (Qt.nilCheck rfl) ?_
       refine RW.q 7 rfl rfl (by kernel_rfl) Sub.any (Qt.fieldAddr (off := 2) (by kernel_rfl) rfl) ?_
       refine RW.q 8 rfl rfl (by kernel_rfl) Sub.any (Qt.loadC (v := .slice (some ⟨bn, on, none⟩) ((LT.ksL h lq).map fun k => (LK.nd h k).p).length (LT.nd h lq).cc) (by kernel_rfl) rfl (by rw [hlca])) ?_
       refine RW.q 9 rfl rfl (by kernel_rfl) Sub.any (Qt.move rfl) ?_
       refine RW.q 10 rfl rfl (by kernel_rfl) Sub.any (Qt.add (r := ((av.length + 1 : Nat) : Int)) rfl rfl (by rw [wr64 (by omega) (by omega)]; omega)) ?_
       refine RW.q 11 rfl rfl (by kernel_rfl) Sub.any (Qt.index (av.length + 1) (e := 95) (sz := 1) (by kernel_rfl) rfl rfl rfl (by rw [List.length_map]; omega)) ?_
       refine RW.q 12 rfl rfl (by kernel_rfl) Sub.any (Qt.loadW (v := pV (LK.nd h ((LT.ksL h lq)[(LT.nd h lq).kv.length]'(by omega))).p) (by kernel_rfl) rfl (fun w ho => by have := hcn (av.length + 1) (by simp; omega) w (ho.map Sub.any); rw [List.getElem_map, List.getElem_map] at this; simp only [hla]; exact this)) ?_
       refine RW.one 13 (by kernel_rfl) ?_
       refine RO.eS rfl rfl (Ef.one [_] (e := 95) (sz := 1) (by kernel_rfl) ⟨.pointer none, by kernel_rfl, rfl⟩ rfl rfl rfl (by omega) (by omega) ?_)
       intro g162
       refine ⟨Sub.any, ?_⟩
       refine RW.one 14 (by kernel_rfl) ?_
       refine RO.r rfl rfl (by kernel_rfl) (Ef.call (Lb.insertN B (LT.nd h q).ca ((LT.ksL h q).map fun k => (LK.nd h k).p).length (LT.nd h q).cc 0 g162 (((LT.ksL h q).map fun k => (LK.nd h k).p).map pV) (pV (LK.nd h ((LT.ksL h lq)[(LT.nd h lq).kv.length]'(by omega))).p) (by simp) (Nat.zero_le _) (by have := hkq.ksl (by omega); rw [List.length_map]; omega) rfl one_pV) Try.func71 rfl rfl rfl ?_)
       rintro _ _ ⟨p7, c7, rfl, ⟨h7, rfl⟩, rfl⟩
       try simp only [List.cons_append, List.nil_append]
       refine RW.done (by rfl) ?_
       simp only [List.drop_succ_cons, List.drop_zero, List.drop_nil]
       refine LW.q rfl (Qt.nilCheck rfl) ?_
       refine LW.q rfl (Qt.fieldAddr (off := 2) (by kernel_rfl) rfl) ?_
       refine LW.e0 rfl (Ef.store1 (by kernel_rfl) rfl rfl rfl (by first | (simp; done) | (simp; omega)) ?_)
       try simp only [List.set_cons_zero, List.set_cons_succ]
       refine LW.done ?_
       refine T.region ?_
       refine LW.q rfl (Qt.move rfl) ?_
       refine LW.q rfl (Qt.move rfl) ?_
       refine LW.q rfl (Qt.nilCheck rfl) ?_
       refine LW.q rfl (Qt.fieldAddr (off := 2) (by kernel_rfl) rfl) ?_
       first | refine LW.q rfl (Qt.load (by kernel_rfl) rfl rfl) ?_ | refine LW.q rfl (Qt.load (by kernel_rfl) rfl (map_at _ _ _ (by omega))) ?_ | refine LW.q rfl (Qt.load (by kernel_rfl) rfl (flat_cell0 _ _ _ (by intros; rfl) _ (by omega) (by rfl))) ?_ | refine LW.q rfl (Qt.load (by kernel_rfl) rfl (flat_cell _ _ _ (by intros; rfl) _ _ (by omega) (by rfl))) ?_ | refine LW.q rfl (Qt.load (by kernel_rfl) rfl (bytes_at _ _ (by omega))) ?_
       refine LW.q rfl (Qt.move rfl) ?_
       refine LW.q rfl (Qt.add (r := ((av.length + 1 : Nat) : Int)) rfl rfl (by rw [wr64 (by omega) (by omega)]; omega)) ?_
       refine LW.q rfl (Qt.slice_nsn (av.length + 1) (e := 95) (sz := 1) (by kernel_rfl) rfl rfl rfl (by show _ ≤ (LT.nd h lq).cc; rw [List.length_map] at hlcc; omega)) ?_
       refine LW.q rfl (Qt.nilCheck rfl) ?_
       refine LW.q rfl (Qt.fieldAddr (off := 2) (by kernel_rfl) rfl) ?_
       refine LW.e0 rfl (Ef.store1 (by kernel_rfl) rfl rfl rfl (by first | (simp; done) | (simp; omega)) ?_)
       try simp only [List.set_cons_zero, List.set_cons_succ]
       refine LW.done ?_
       refine T.seq ?_
       refine T.region ?_
       refine LW.q rfl (Qt.move rfl) ?_
       refine LW.q rfl (Qt.assign rfl) ?_
       refine LW.done ?_
       refine T.ret ?_
       exact ⟨.inl rfl, _, _, res [_] rfl ⟨rvT rfl, trivial⟩, (fill_left (x' := ⟨x.p, x.kv.set M1.length e, some ⟨bk, 0, none⟩, x.kc, some ⟨bv, 0, none⟩, x.vc, some ⟨bc, 0, none⟩, x.cc⟩) (y := ⟨(LT.nd h lq).p, av, (LT.nd h lq).ka, (LT.nd h lq).kc, (LT.nd h lq).va, (LT.nd h lq).vc, (LT.nd h lq).ca, (LT.nd h lq).cc⟩) (z := ⟨(LT.nd h q).p, sk :: (LT.nd h q).kv, some ⟨h5, 0, none⟩, c5, some ⟨h6, 0, none⟩, c6, some ⟨h7, 0, none⟩, c7⟩) (by rw [← eL]; exact hok.mono (Nat.zero_le _)) hs rfl rfl hae rfl rfl hqe (by omega) ho), (fun k K => fl_end (av := av) (p5 := some ⟨h5, 0, none⟩) (c5 := c5) (p6 := some ⟨h6, 0, none⟩) (c6 := c6) (p7 := some ⟨h7, 0, none⟩) (c7 := c7) (x := x) hka hva hca hs hae (m1 := av.length + 1) (by rw [List.length_take, hla]; omega) (m2 := ((LT.ksL h q).map fun k => (LK.nd h k).p).length + 1) (by rw [hdr]; simp <;> omega) (bps := List.take 0 (((LT.ksL h q).map fun k => (LK.nd h k).p).map pV) ++ pV (LK.nd h ((LT.ksL h lq)[(LT.nd h lq).kv.length]'(by omega))).p :: ((LT.ksL h q).map fun k => (LK.nd h k).p).map pV) (by rw [hdr]; simp) (Sub.any k K))⟩
      ·
       have hnl0 : (LT.ksL h lq) = [] := List.eq_nil_of_length_eq_zero (by simp at hnl; simp [hnl])
       refine T.skip ?_
       refine T.seq ?_
       refine T.region ?_
       refine LW.q rfl (Qt.move rfl) ?_
       refine LW.q rfl (Qt.assign rfl) ?_
       refine LW.done ?_
       refine T.ret ?_
       exact ⟨.inl rfl, _, _, res [_] rfl ⟨rvT rfl, trivial⟩, (fill_left (x' := ⟨x.p, x.kv.set M1.length e, some ⟨bk, 0, none⟩, x.kc, some ⟨bv, 0, none⟩, x.vc, some ⟨bc, 0, none⟩, x.cc⟩) (y := ⟨(LT.nd h lq).p, av, (LT.nd h lq).ka, (LT.nd h lq).kc, (LT.nd h lq).va, (LT.nd h lq).vc, (LT.nd h lq).ca, (LT.nd h lq).cc⟩) (z := ⟨(LT.nd h q).p, sk :: (LT.nd h q).kv, some ⟨h5, 0, none⟩, c5, some ⟨h6, 0, none⟩, c6, (LT.nd h q).ca, (LT.nd h q).cc⟩) (by rw [← eL]; exact hok.mono (Nat.zero_le _)) hs rfl rfl hae rfl rfl hqe (by omega) ho), (fun k K => fl_end (av := av) (p5 := some ⟨h5, 0, none⟩) (c5 := c5) (p6 := some ⟨h6, 0, none⟩) (c6 := c6) (p7 := (LT.nd h q).ca) (c7 := (LT.nd h q).cc) (x := x) hka hva hca hs hae (m1 := ((LT.ksL h lq).map fun k => (LK.nd h k).p).length) (by rw [hnl0]; simp) (m2 := ((LT.ksL h q).map fun k => (LK.nd h k).p).length) (by rw [hnl0]; simp) (bps := ((LT.ksL h q).map fun k => (LK.nd h k).p).map pV) (by rw [hnl0]; simp) (Sub.any k K))⟩
   ·
    refine T.skip ?_
    exact ⟨_, ⟨_, 0, fun M1' lq' e => (by have := List.append_inj' e rfl; have := this.2; simp at this; subst this; have := hklq.2.1; omega), (updS rfl (updS rfl (updS rfl (updS rfl rfl)))), rfl⟩, fun k K => by rw [eL]; exact Has.swap (Has.shutx2 hka hva hca (m := trB g o r cnt :: F) (Sub.any k K))⟩
 rintro fz lz ⟨f0, n, hleft, rfl, rfl⟩
 try simp only [List.cons_append, List.nil_append]
 refine T.cut (fun fz lz => ∃ (f0 : Fr) (n : Nat), (∀ rq M2, L2 = rq :: M2 → (LT.nd h rq).kv.length = o - 1) ∧ fz = (upd (upd (upd f0 0 (pV g)) 1 (pV x.p)) 2 (.int .i64 L1.length)) ∧ lz = trB g o r cnt :: treeA (h + 1) (LT.mk (h + 1) x (L1 ++ q :: L2)) :: F) ?_ ?_
 ·
  by_cases hL2 : L2 = []
  ·
   have hl0 : L1.length = x.kv.length := by rw [hL2] at hll; simpa using hll
   refine T.conv (l' := opx1 h x bk bv bc L1 q L2 (trB g o r cnt :: F)) (fun w ho => ho.map fun k K => Has.openx1 hka hva hca (Has.swap K)) ?_
   simp only [opx1, opx2, ndX]
   refine T.seq ?_
   refine T.drawAll 27 (by kernel_rfl) (Nat.le_of_ble_eq_true rfl) (by kernel_rfl) ?_
   refine RW.q 0 rfl rfl (by kernel_rfl) (Sub.refl _) (Qt.move rfl) ?_
   refine RW.q 1 rfl rfl (by kernel_rfl) (Sub.refl _) (Qt.move rfl) ?_
   refine RW.q 2 rfl rfl (by kernel_rfl) (Sub.refl _) (Qt.nilCheck rfl) ?_
   refine RW.q 3 rfl rfl (by kernel_rfl) (Sub.refl _) (Qt.fieldAddr0 (by kernel_rfl) rfl) ?_
   first | refine RW.q 4 rfl rfl (by kernel_rfl) (Sub.refl _) (Qt.load (by kernel_rfl) rfl rfl) ?_ | refine RW.q 4 rfl rfl (by kernel_rfl) (Sub.refl _) (Qt.load (by kernel_rfl) rfl (map_at _ _ _ (by omega))) ?_ | refine RW.q 4 rfl rfl (by kernel_rfl) (Sub.refl _) (Qt.load (by kernel_rfl) rfl (flat_cell0 _ _ _ (by intros; rfl) _ (by omega) (by rfl))) ?_ | refine RW.q 4 rfl rfl (by kernel_rfl) (Sub.refl _) (Qt.load (by kernel_rfl) rfl (flat_cell _ _ _ (by intros; rfl) _ _ (by omega) (by rfl))) ?_ | refine RW.q 4 rfl rfl (by kernel_rfl) (Sub.refl _) (Qt.load (by kernel_rfl) rfl (bytes_at _ _ (by omega))) ?_
   refine RW.q 5 rfl rfl (by kernel_rfl) (Sub.refl _) (Qt.len (e := 9) (sz := 1) (by kernel_rfl) rfl) ?_
   refine RW.q 6 rfl rfl (by kernel_rfl) (Sub.refl _) (Qt.lss rfl rfl) ?_
   refine RW.q 7 rfl rfl (by kernel_rfl) (Sub.refl _) (Qt.move rfl) ?_
   first | refine RW.gF (t := 184) rfl rfl ?_ | refine RW.gF (t := 184) rfl (decide_eq_false ((by simp [hl0]))) ?_ | refine RW.gF (t := 184) rfl ((by simp [hl0])) ?_
   refine RW.s 8 rfl rfl (by kernel_rfl) (Sub.refl _) ?_
   refine RW.s 9 rfl rfl (by kernel_rfl) (Sub.refl _) ?_
   refine RW.s 10 rfl rfl (by kernel_rfl) (Sub.refl _) ?_
   refine RW.s 11 rfl rfl (by kernel_rfl) (Sub.refl _) ?_
   refine RW.s 12 rfl rfl (by kernel_rfl) (Sub.refl _) ?_
   refine RW.s 13 rfl rfl (by kernel_rfl) (Sub.refl _) ?_
   refine RW.s 14 rfl rfl (by kernel_rfl) (Sub.refl _) ?_
   refine RW.s 15 rfl rfl (by kernel_rfl) (Sub.refl _) ?_
   refine RW.s 16 rfl rfl (by kernel_rfl) (Sub.refl _) ?_
   refine RW.s 17 rfl rfl (by kernel_rfl) (Sub.refl _) ?_
   refine RW.s 18 rfl rfl (by kernel_rfl) (Sub.refl _) ?_
   refine RW.s 19 rfl rfl (by kernel_rfl) (Sub.refl _) ?_
   refine RW.s 20 rfl rfl (by kernel_rfl) (Sub.refl _) ?_
   refine RW.s 21 rfl rfl (by kernel_rfl) (Sub.refl _) ?_
   refine RW.s 22 rfl rfl (by kernel_rfl) (Sub.refl _) ?_
   refine RW.s 23 rfl rfl (by kernel_rfl) (Sub.refl _) ?_
   refine RW.s 24 rfl rfl (by kernel_rfl) (Sub.refl _) ?_
   refine RW.s 25 rfl rfl (by kernel_rfl) (Sub.refl _) ?_
   refine RW.q 26 rfl rfl (by kernel_rfl) (Sub.refl _) (Qt.pick rfl rfl) ?_
   refine RW.done (by rfl) ?_
   simp only [List.drop_succ_cons, List.drop_zero, List.drop_nil]
   refine LW.done ?_
   first | refine T.condF rfl ?_ | refine T.condPF rfl (by omega) ?_ | refine T.condBF rfl (by omega) ?_
   refine T.skip ?_
   exact ⟨_, ⟨_, 0, fun rq M2 e => (by rw [hL2] at e; cases e), (updS rfl (updS rfl (updS rfl rfl))), rfl⟩, fun k K => Has.swap (Has.shutx1 hka hva hca (m := trB g o r cnt :: F) (Sub.any k K))⟩
  ·
   obtain ⟨rq, M2, rfl⟩ : ∃ rq M2, L2 = rq :: M2 := by cases L2 with | nil => exact absurd rfl hL2 | cons a b => exact ⟨a, b, rfl⟩
   have hkrq := okN_false.1 (hk.2.2.2 rq (by simp))
   have hml : L1.length < x.kv.length := by simp only [List.length_cons] at hll; omega
   obtain ⟨sk, hs⟩ : ∃ sk, x.kv[L1.length]? = some sk := ⟨_, List.getElem?_eq_getElem hml⟩
   refine T.conv (l' := opx2 h x bk bv bc L1 q rq M2 (trB g o r cnt :: F)) (fun w ho => ho.map fun k K => Has.openx2 hka hva hca (Has.swap K)) ?_
   simp only [opx1, opx2, ndX]
   refine T.own fun w0 ho0 => ?_
   have hpk := (ho0.slice_at (p := (LT.nd h rq).ka) (m := (LT.nd h rq).kv.length) (c := (LT.nd h rq).kc) (k := (LT.nd h rq).kv.length)).2.1
   have hpv := (ho0.slice_at (p := (LT.nd h rq).va) (m := (LT.nd h rq).kv.length) (c := (LT.nd h rq).vc) (k := (LT.nd h rq).kv.length)).2.1
   have hpc := (ho0.slice_at (p := (LT.nd h rq).ca) (m := ((LT.ksL h rq).map fun k => (LK.nd h k).p).length) (c := (LT.nd h rq).cc) (k := ((LT.ksL h rq).map fun k => (LK.nd h k).p).length)).2.1
   clear ho0
   refine T.seq ?_
   refine T.drawAll 27 (by kernel_rfl) (Nat.le_of_ble_eq_true rfl) (by kernel_rfl) ?_
   refine RW.q 0 rfl rfl (by kernel_rfl) (Sub.refl _) (Qt.move rfl) ?_
   refine RW.q 1 rfl rfl (by kernel_rfl) (Sub.refl _) (Qt.move rfl) ?_
   refine RW.q 2 rfl rfl (by kernel_rfl) (Sub.refl _) (Qt.nilCheck rfl) ?_
   refine RW.q 3 rfl rfl (by kernel_rfl) (Sub.refl _) (Qt.fieldAddr0 (by kernel_rfl) rfl) ?_
   first | refine RW.q 4 rfl rfl (by kernel_rfl) (Sub.refl _) (Qt.load (by kernel_rfl) rfl rfl) ?_ | refine RW.q 4 rfl rfl (by kernel_rfl) (Sub.refl _) (Qt.load (by kernel_rfl) rfl (map_at _ _ _ (by omega))) ?_ | refine RW.q 4 rfl rfl (by kernel_rfl) (Sub.refl _) (Qt.load (by kernel_rfl) rfl (flat_cell0 _ _ _ (by intros; rfl) _ (by omega) (by rfl))) ?_ | refine RW.q 4 rfl rfl (by kernel_rfl) (Sub.refl _) (Qt.load (by kernel_rfl) rfl (flat_cell _ _ _ (by intros; rfl) _ _ (by omega) (by rfl))) ?_ | refine RW.q 4 rfl rfl (by kernel_rfl) (Sub.refl _) (Qt.load (by kernel_rfl) rfl (bytes_at _ _ (by omega))) ?_
   refine RW.q 5 rfl rfl (by kernel_rfl) (Sub.refl _) (Qt.len (e := 9) (sz := 1) (by kernel_rfl) rfl) ?_
   refine RW.q 6 rfl rfl (by kernel_rfl) (Sub.refl _) (Qt.lss rfl rfl) ?_
   refine RW.q 7 rfl rfl (by kernel_rfl) (Sub.refl _) (Qt.move rfl) ?_
   first | refine RW.gT (t := 184) rfl rfl ?_ | refine RW.gT (t := 184) rfl (decide_eq_true ((by simpa using hml))) ?_ | refine RW.gT (t := 184) rfl ((by simpa using hml)) ?_
   refine RW.q 8 rfl rfl (by kernel_rfl) (Sub.refl _) (Qt.move rfl) ?_
   refine RW.q 9 rfl rfl (by kernel_rfl) (Sub.refl _) (Qt.nilCheck rfl) ?_
   refine RW.q 10 rfl rfl (by kernel_rfl) (Sub.refl _) (Qt.fieldAddr (off := 2) (by kernel_rfl) rfl) ?_
   first | refine RW.q 11 rfl rfl (by kernel_rfl) (Sub.refl _) (Qt.load (by kernel_rfl) rfl rfl) ?_ | refine RW.q 11 rfl rfl (by kernel_rfl) (Sub.refl _) (Qt.load (by kernel_rfl) rfl (map_at _ _ _ (by omega))) ?_ | refine RW.q 11 rfl rfl (by kernel_rfl) (Sub.refl _) (Qt.load (by kernel_rfl) rfl (flat_cell0 _ _ _ (by intros; rfl) _ (by omega) (by rfl))) ?_ | refine RW.q 11 rfl rfl (by kernel_rfl) (Sub.refl _) (Qt.load (by kernel_rfl) rfl (flat_cell _ _ _ (by intros; rfl) _ _ (by omega) (by rfl))) ?_ | refine RW.q 11 rfl rfl (by kernel_rfl) (Sub.refl _) (Qt.load (by kernel_rfl) rfl (bytes_at _ _ (by omega))) ?_
   refine RW.q 12 rfl rfl (by kernel_rfl) (Sub.refl _) (Qt.move rfl) ?_
   refine RW.q 13 rfl rfl (by kernel_rfl) (Sub.refl _) (Qt.add (r := ((L1.length + 1 : Nat) : Int)) rfl rfl (by rw [wr64 (by omega) (by omega)]; omega)) ?_
   refine RW.q 14 rfl rfl (by kernel_rfl) (Sub.refl _) (Qt.index (L1.length + 1) (e := 95) (sz := 1) (by kernel_rfl) rfl rfl rfl (by simp)) ?_
   refine RW.q 15 rfl rfl (by kernel_rfl) (Sub.refl _) (Qt.load (v := pV (LT.nd h rq).p) (by kernel_rfl) rfl (by simp)) ?_
   refine RW.q 16 rfl rfl (by kernel_rfl) (Sub.refl _) (Qt.nilCheck rfl) ?_
   refine RW.q 17 rfl rfl (by kernel_rfl) (Sub.refl _) (Qt.fieldAddr0 (by kernel_rfl) rfl) ?_
   first | refine RW.q 18 rfl rfl (by kernel_rfl) (Sub.refl _) (Qt.load (by kernel_rfl) rfl rfl) ?_ | refine RW.q 18 rfl rfl (by kernel_rfl) (Sub.refl _) (Qt.load (by kernel_rfl) rfl (map_at _ _ _ (by omega))) ?_ | refine RW.q 18 rfl rfl (by kernel_rfl) (Sub.refl _) (Qt.load (by kernel_rfl) rfl (flat_cell0 _ _ _ (by intros; rfl) _ (by omega) (by rfl))) ?_ | refine RW.q 18 rfl rfl (by kernel_rfl) (Sub.refl _) (Qt.load (by kernel_rfl) rfl (flat_cell _ _ _ (by intros; rfl) _ _ (by omega) (by rfl))) ?_ | refine RW.q 18 rfl rfl (by kernel_rfl) (Sub.refl _) (Qt.load (by kernel_rfl) rfl (bytes_at _ _ (by omega))) ?_
   refine RW.q 19 rfl rfl (by kernel_rfl) (Sub.refl _) (Qt.len (e := 9) (sz := 1) (by kernel_rfl) rfl) ?_
   refine RW.q 20 rfl rfl (by kernel_rfl) (Sub.refl _) (Qt.move rfl) ?_
   refine RW.q 21 rfl rfl (by kernel_rfl) (Sub.refl _) (Qt.nilCheck rfl) ?_
   refine RW.q 22 rfl rfl (by kernel_rfl) (Sub.refl _) (Qt.fieldAddr0 (by kernel_rfl) rfl) ?_
   first | refine RW.q 23 rfl rfl (by kernel_rfl) (Sub.refl _) (Qt.loadAgg [_] (by kernel_rfl) rfl ⟨rfl, trivial⟩) ?_ | refine RW.q 23 rfl rfl (by kernel_rfl) (Sub.refl _) (Qt.loadAgg [_] (by kernel_rfl) rfl (by exact rdl_flat _ _ _ (by intros; rfl) _ (by omega))) ?_
   refine RW.one 24 (by kernel_rfl) ?_
   refine RO.e rfl rfl (Ef.call (Bt.least B o (by omega)) Try.func80 rfl rfl rfl ?_)
   rintro _ _ ⟨rfl, rfl⟩
   try simp only [List.cons_append, List.nil_append]
   refine ⟨Sub.any, ?_⟩
   refine RW.q 25 rfl rfl (by kernel_rfl) (Sub.refl _) (Qt.gtr rfl rfl) ?_
   refine RW.q 26 rfl rfl (by kernel_rfl) (Sub.refl _) (Qt.pick rfl rfl) ?_
   refine RW.done (by rfl) ?_
   simp only [List.drop_succ_cons, List.drop_zero, List.drop_nil]
   refine LW.done ?_
   refine T.condP rfl (fun hrb => ?_) (fun hrb => ?_)
   ·
    obtain ⟨e, bv', hbe⟩ : ∃ e bv', (LT.nd h rq).kv = e :: bv' := by cases hq : (LT.nd h rq).kv with | nil => rw [hq] at hrb; simp at hrb; omega | cons a b => exact ⟨a, b, rfl⟩
    have hlb : (LT.nd h rq).kv.length = bv'.length + 1 := by rw [hbe]; simp
    have hrq0 : (LT.nd h rq).kv.length ≤ 2 * o - 1 := hkrq.1
    obtain ⟨bl, ol, hlka, hcl⟩ := (RdV.ks (B := B) hpk).at (by omega)
    obtain ⟨bw, ow, hlva, hcw⟩ := (RdV.vs (B := B) hpv).at (by omega)
    refine T.seq ?_
    refine T.region ?_
    refine LW.q rfl (Qt.move rfl) ?_
    refine LW.q rfl (Qt.nilCheck rfl) ?_
    refine LW.q rfl (Qt.fieldAddr (off := 2) (by kernel_rfl) rfl) ?_
    first | refine LW.q rfl (Qt.load (by kernel_rfl) rfl rfl) ?_ | refine LW.q rfl (Qt.load (by kernel_rfl) rfl (map_at _ _ _ (by omega))) ?_ | refine LW.q rfl (Qt.load (by kernel_rfl) rfl (flat_cell0 _ _ _ (by intros; rfl) _ (by omega) (by rfl))) ?_ | refine LW.q rfl (Qt.load (by kernel_rfl) rfl (flat_cell _ _ _ (by intros; rfl) _ _ (by omega) (by rfl))) ?_ | refine LW.q rfl (Qt.load (by kernel_rfl) rfl (bytes_at _ _ (by omega))) ?_
    refine LW.q rfl (Qt.move rfl) ?_
    refine LW.q rfl (Qt.add (r := ((L1.length + 1 : Nat) : Int)) rfl rfl (by rw [wr64 (by omega) (by omega)]; omega)) ?_
    refine LW.q rfl (Qt.index (L1.length + 1) (e := 95) (sz := 1) (by kernel_rfl) rfl rfl rfl (by simp)) ?_
    refine LW.q rfl (Qt.load (v := pV (LT.nd h rq).p) (by kernel_rfl) rfl (by simp)) ?_
    refine LW.q rfl (Qt.assign rfl) ?_
    refine LW.done ?_
    refine T.seq ?_
    refine T.draw 31 ([ndB (LT.nd h q) ((LT.ksL h q).map fun k => (LK.nd h k).p).length, xB x bk bv bc ((L1 ++ q :: rq :: M2).map fun k => (LT.nd h k).p).length, xK x bk, xV x bv]) (by kernel_rfl) (Nat.le_of_ble_eq_true rfl) (by kernel_rfl) ?_
    refine RW.q 0 rfl rfl (by kernel_rfl) Sub.any (Qt.move rfl) ?_
    refine RW.q 1 rfl rfl (by kernel_rfl) Sub.any (Qt.move rfl) ?_
    refine RW.q 2 rfl rfl (by kernel_rfl) Sub.any (Qt.move rfl) ?_
    refine RW.q 3 rfl rfl (by kernel_rfl) Sub.any (Qt.nilCheck rfl) ?_
    refine RW.q 4 rfl rfl (by kernel_rfl) Sub.any (Qt.fieldAddr0 (by kernel_rfl) rfl) ?_
    first | refine RW.q 5 rfl rfl (by kernel_rfl) Sub.any (Qt.load (by kernel_rfl) rfl rfl) ?_ | refine RW.q 5 rfl rfl (by kernel_rfl) Sub.any (Qt.load (by kernel_rfl) rfl (map_at _ _ _ (by omega))) ?_ | refine RW.q 5 rfl rfl (by kernel_rfl) Sub.any (Qt.load (by kernel_rfl) rfl (flat_cell0 _ _ _ (by intros; rfl) _ (by omega) (by rfl))) ?_ | refine RW.q 5 rfl rfl (by kernel_rfl) Sub.any (Qt.load (by kernel_rfl) rfl (flat_cell _ _ _ (by intros; rfl) _ _ (by omega) (by rfl))) ?_ | refine RW.q 5 rfl rfl (by kernel_rfl) Sub.any (Qt.load (by kernel_rfl) rfl (bytes_at _ _ (by omega))) ?_
    refine RW.q 6 rfl rfl (by kernel_rfl) Sub.any (Qt.move rfl) ?_
    refine RW.q 7 rfl rfl (by kernel_rfl) Sub.any (Qt.nilCheck rfl) ?_
    refine RW.q 8 rfl rfl (by kernel_rfl) Sub.any (Qt.fieldAddr0 (by kernel_rfl) rfl) ?_
    first | refine RW.q 9 rfl rfl (by kernel_rfl) Sub.any (Qt.load (by kernel_rfl) rfl rfl) ?_ | refine RW.q 9 rfl rfl (by kernel_rfl) Sub.any (Qt.load (by kernel_rfl) rfl (map_at _ _ _ (by omega))) ?_ | refine RW.q 9 rfl rfl (by kernel_rfl) Sub.any (Qt.load (by kernel_rfl) rfl (flat_cell0 _ _ _ (by intros; rfl) _ (by omega) (by rfl))) ?_ | refine RW.q 9 rfl rfl (by kernel_rfl) Sub.any (Qt.load (by kernel_rfl) rfl (flat_cell _ _ _ (by intros; rfl) _ _ (by omega) (by rfl))) ?_ | refine RW.q 9 rfl rfl (by kernel_rfl) Sub.any (Qt.load (by kernel_rfl) rfl (bytes_at _ _ (by omega))) ?_
    refine RW.q 10 rfl rfl (by kernel_rfl) Sub.any (Qt.move rfl) ?_
    refine RW.q 11 rfl rfl (by kernel_rfl) Sub.any (Qt.index L1.length (e := 9) (sz := 1) (by kernel_rfl) rfl rfl rfl hml) ?_
    refine RW.q 12 rfl rfl (by kernel_rfl) Sub.any (Qt.load (v := kT sk.1) (by kernel_rfl) rfl (by simp [hs])) ?_
    refine RW.q 15 rfl rfl (by kernel_rfl) Sub.any (Qt.move rfl) ?_
    refine RW.q 16 rfl rfl (by kernel_rfl) Sub.any (Qt.nilCheck rfl) ?_
    refine RW.q 17 rfl rfl (by kernel_rfl) Sub.any (Qt.fieldAddr (off := 1) (by kernel_rfl) rfl) ?_
    first | refine RW.q 18 rfl rfl (by kernel_rfl) Sub.any (Qt.load (by kernel_rfl) rfl rfl) ?_ | refine RW.q 18 rfl rfl (by kernel_rfl) Sub.any (Qt.load (by kernel_rfl) rfl (map_at _ _ _ (by omega))) ?_ | refine RW.q 18 rfl rfl (by kernel_rfl) Sub.any (Qt.load (by kernel_rfl) rfl (flat_cell0 _ _ _ (by intros; rfl) _ (by omega) (by rfl))) ?_ | refine RW.q 18 rfl rfl (by kernel_rfl) Sub.any (Qt.load (by kernel_rfl) rfl (flat_cell _ _ _ (by intros; rfl) _ _ (by omega) (by rfl))) ?_ | refine RW.q 18 rfl rfl (by kernel_rfl) Sub.any (Qt.load (by kernel_rfl) rfl (bytes_at _ _ (by omega))) ?_
    refine RW.q 19 rfl rfl (by kernel_rfl) Sub.any (Qt.move rfl) ?_
    refine RW.q 20 rfl rfl (by kernel_rfl) Sub.any (Qt.nilCheck rfl) ?_
    refine RW.q 21 rfl rfl (by kernel_rfl) Sub.any (Qt.fieldAddr (off := 1) (by kernel_rfl) rfl) ?_
    first | refine RW.q 22 rfl rfl (by kernel_rfl) Sub.any (Qt.load (by kernel_rfl) rfl rfl) ?_ | refine RW.q 22 rfl rfl (by kernel_rfl) Sub.any (Qt.load (by kernel_rfl) rfl (map_at _ _ _ (by omega))) ?_ | refine RW.q 22 rfl rfl (by kernel_rfl) Sub.any (Qt.load (by kernel_rfl) rfl (flat_cell0 _ _ _ (by intros; rfl) _ (by omega) (by rfl))) ?_ | refine RW.q 22 rfl rfl (by kernel_rfl) Sub.any (Qt.load (by kernel_rfl) rfl (flat_cell _ _ _ (by intros; rfl) _ _ (by omega) (by rfl))) ?_ | refine RW.q 22 rfl rfl (by kernel_rfl) Sub.any (Qt.load (by kernel_rfl) rfl (bytes_at _ _ (by omega))) ?_
    refine RW.q 23 rfl rfl (by kernel_rfl) Sub.any (Qt.move rfl) ?_
    refine RW.q 24 rfl rfl (by kernel_rfl) Sub.any (Qt.index L1.length (e := 2) (sz := 1) (by kernel_rfl) rfl rfl rfl hml) ?_
    refine RW.q 25 rfl rfl (by kernel_rfl) Sub.any (Qt.load (v := iV sk.2) (by kernel_rfl) rfl (by simp [hs])) ?_
    refine RW.all [13, 26] (by kernel_rfl) (List.forall_mem_cons.2 ⟨?_, List.forall_mem_cons.2 ⟨?_, List.forall_mem_nil _⟩⟩)
    ·
     refine RO.eS rfl rfl (Ef.one [_] (e := 9) (sz := 1) (by kernel_rfl) ⟨.string .empty, by kernel_rfl, rfl⟩ rfl rfl rfl (by omega) (by omega) ?_)
     intro g225
     refine ⟨Sub.any, ?_⟩
     refine RW.all [14, 26] (by kernel_rfl) (List.forall_mem_cons.2 ⟨?_, List.forall_mem_cons.2 ⟨?_, List.forall_mem_nil _⟩⟩)
     ·
      refine RO.eS rfl rfl (Ef.append Lb.elemS rfl rfl (SrcOf.blk (by kernel_rfl) rfl (by simp [Value.oneCell'])) (by unfold maxLen; omega) (by omega) ?_)
      rintro p5 c5 hp5
      try simp only [List.cons_append, List.nil_append]
      refine ⟨Sub.any, ?_⟩
      refine RW.one 26 (by kernel_rfl) ?_
      refine RO.eS rfl rfl (Ef.one [_] (e := 2) (sz := 1) (by kernel_rfl) ⟨.int .i64 0, by kernel_rfl, rfl⟩ rfl rfl rfl (by omega) (by omega) ?_)
      intro g238
      refine ⟨Sub.any, ?_⟩
      refine RW.one 27 (by kernel_rfl) ?_
      refine RO.r rfl rfl (by kernel_rfl) (Ef.append Lb.elemI rfl rfl (SrcOf.blk (by kernel_rfl) rfl (by simp [Value.oneCell'])) (by unfold maxLen; omega) (by omega) ?_)
      rintro p6 c6 hp6
      try simp only [List.cons_append, List.nil_append]
      refine RW.q 28 rfl rfl (by kernel_rfl) (Sub.refl _) (Qt.nilCheck rfl) ?_
      refine RW.q 29 rfl rfl (by kernel_rfl) (Sub.refl _) (Qt.fieldAddr0 (by kernel_rfl) rfl) ?_
      refine RW.one 30 (by kernel_rfl) ?_
      refine RO.r0 rfl rfl (by kernel_rfl) (Ef.store1 (by kernel_rfl) rfl rfl rfl (by first | (simp; done) | (simp; omega)) ?_)
      try simp only [List.set_cons_zero, List.set_cons_succ]
      refine RW.done (by rfl) ?_
      simp only [List.drop_succ_cons, List.drop_zero, List.drop_nil]
      refine LW.q rfl (Qt.nilCheck rfl) ?_
      refine LW.q rfl (Qt.fieldAddr (off := 1) (by kernel_rfl) rfl) ?_
      refine LW.e0 rfl (Ef.store1 (by kernel_rfl) rfl rfl rfl (by first | (simp; done) | (simp; omega)) ?_)
      try simp only [List.set_cons_zero, List.set_cons_succ]
      refine LW.done ?_
      refine T.seq ?_
      refine T.draw 24 ([xB x bk bv bc ((L1 ++ q :: rq :: M2).map fun k => (LT.nd h k).p).length, ndB (LT.nd h rq) ((LT.ksL h rq).map fun k => (LK.nd h k).p).length, ndK (LT.nd h rq), ndV (LT.nd h rq)]) (by kernel_rfl) (Nat.le_of_ble_eq_true rfl) (by kernel_rfl) ?_
      refine RW.q 0 rfl rfl (by kernel_rfl) Sub.any (Qt.move rfl) ?_
      refine RW.q 1 rfl rfl (by kernel_rfl) Sub.any (Qt.nilCheck rfl) ?_
      refine RW.q 2 rfl rfl (by kernel_rfl) Sub.any (Qt.fieldAddr0 (by kernel_rfl) rfl) ?_
      first | refine RW.q 3 rfl rfl (by kernel_rfl) Sub.any (Qt.load (by kernel_rfl) rfl rfl) ?_ | refine RW.q 3 rfl rfl (by kernel_rfl) Sub.any (Qt.load (by kernel_rfl) rfl (map_at _ _ _ (by omega))) ?_ | refine RW.q 3 rfl rfl (by kernel_rfl) Sub.any (Qt.load (by kernel_rfl) rfl (flat_cell0 _ _ _ (by intros; rfl) _ (by omega) (by rfl))) ?_ | refine RW.q 3 rfl rfl (by kernel_rfl) Sub.any (Qt.load (by kernel_rfl) rfl (flat_cell _ _ _ (by intros; rfl) _ _ (by omega) (by rfl))) ?_ | refine RW.q 3 rfl rfl (by kernel_rfl) Sub.any (Qt.load (by kernel_rfl) rfl (bytes_at _ _ (by omega))) ?_
      refine RW.q 4 rfl rfl (by kernel_rfl) Sub.any (Qt.move rfl) ?_
      refine RW.q 5 rfl rfl (by kernel_rfl) Sub.any (Qt.move rfl) ?_
      refine RW.q 6 rfl rfl (by kernel_rfl) Sub.any (Qt.nilCheck rfl) ?_
      refine RW.q 7 rfl rfl (by kernel_rfl) Sub.any (Qt.fieldAddr (off := 1) (by kernel_rfl) rfl) ?_
      first | refine RW.q 8 rfl rfl (by kernel_rfl) Sub.any (Qt.load (by kernel_rfl) rfl rfl) ?_ | refine RW.q 8 rfl rfl (by kernel_rfl) Sub.any (Qt.load (by kernel_rfl) rfl (map_at _ _ _ (by omega))) ?_ | refine RW.q 8 rfl rfl (by kernel_rfl) Sub.any (Qt.load (by kernel_rfl) rfl (flat_cell0 _ _ _ (by intros; rfl) _ (by omega) (by rfl))) ?_ | refine RW.q 8 rfl rfl (by kernel_rfl) Sub.any (Qt.load (by kernel_rfl) rfl (flat_cell _ _ _ (by intros; rfl) _ _ (by omega) (by rfl))) ?_ | refine RW.q 8 rfl rfl (by kernel_rfl) Sub.any (Qt.load (by kernel_rfl) rfl (bytes_at _ _ (by omega))) ?_
      refine RW.q 9 rfl rfl (by kernel_rfl) Sub.any (Qt.move rfl) ?_
      refine RW.q 10 rfl rfl (by kernel_rfl) Sub.any (Qt.move rfl) ?_
      refine RW.q 11 rfl rfl (by kernel_rfl) Sub.any (Qt.nilCheck rfl) ?_
      refine RW.q 12 rfl rfl (by kernel_rfl) Sub.any (Qt.fieldAddr0 (by kernel_rfl) rfl) ?_
      refine RW.q 13 rfl rfl (by kernel_rfl) Sub.any (Qt.load (v := .slice (some ⟨bl, ol, none⟩) (LT.nd h rq).kv.length (LT.nd h rq).kc) (by kernel_rfl) rfl (by rw [← hlka]; rfl)) ?_
      refine RW.q 14 rfl rfl (by kernel_rfl) Sub.any (Qt.index 0 (e := 9) (sz := 1) (by kernel_rfl) rfl rfl rfl (by omega)) ?_
      refine RW.q 15 rfl rfl (by kernel_rfl) Sub.any (Qt.loadW (v := kT e.1) (by kernel_rfl) rfl (fun w ho => by have := hcl 0 (by simp; omega) w (ho.map Sub.any); simpa [hbe] using this)) ?_
      refine RW.q 16 rfl rfl (by kernel_rfl) Sub.any (Qt.move rfl) ?_
      refine RW.q 17 rfl rfl (by kernel_rfl) Sub.any (Qt.nilCheck rfl) ?_
      refine RW.q 18 rfl rfl (by kernel_rfl) Sub.any (Qt.fieldAddr (off := 1) (by kernel_rfl) rfl) ?_
      refine RW.q 19 rfl rfl (by kernel_rfl) Sub.any (Qt.load (v := .slice (some ⟨bw, ow, none⟩) (LT.nd h rq).kv.length (LT.nd h rq).vc) (by kernel_rfl) rfl (by rw [← hlva]; rfl)) ?_
      refine RW.q 20 rfl rfl (by kernel_rfl) Sub.any (Qt.index 0 (e := 2) (sz := 1) (by kernel_rfl) rfl rfl rfl (by omega)) ?_
      refine RW.q 21 rfl rfl (by kernel_rfl) Sub.any (Qt.loadW (v := iV e.2) (by kernel_rfl) rfl (fun w ho => by have := hcw 0 (by simp; omega) w (ho.map Sub.any); simpa [hbe] using this)) ?_
      refine RW.q 22 rfl rfl (by kernel_rfl) Sub.any (Qt.index L1.length (e := 9) (sz := 1) (by kernel_rfl) rfl rfl rfl hml) ?_
      refine RW.one 23 (by kernel_rfl) ?_
      refine RO.r0 rfl rfl (by kernel_rfl) (Ef.store1 (by kernel_rfl) rfl rfl rfl (by first | (simp; done) | (simp; omega)) ?_)
      try simp only [List.set_cons_zero, List.set_cons_succ]
      refine RW.done (by rfl) ?_
      simp only [List.drop_succ_cons, List.drop_zero, List.drop_nil]
      refine LW.q rfl (Qt.index L1.length (e := 2) (sz := 1) (by kernel_rfl) rfl rfl rfl hml) ?_
      refine LW.e0 rfl (Ef.store1 (by kernel_rfl) rfl rfl rfl (by first | (simp; done) | (simp; omega)) ?_)
      try simp only [List.set_cons_zero, List.set_cons_succ]
      refine LW.done ?_
      refine T.seq ?_
      refine T.draw 15 ([ndB (LT.nd h rq) ((LT.ksL h rq).map fun k => (LK.nd h k).p).length]) (by kernel_rfl) (Nat.le_of_ble_eq_true rfl) (by kernel_rfl) ?_
      refine RW.q 0 rfl rfl (by kernel_rfl) Sub.any (Qt.move rfl) ?_
      refine RW.q 1 rfl rfl (by kernel_rfl) Sub.any (Qt.move rfl) ?_
      refine RW.q 2 rfl rfl (by kernel_rfl) Sub.any (Qt.move rfl) ?_
      refine RW.q 3 rfl rfl (by kernel_rfl) Sub.any (Qt.nilCheck rfl) ?_
      refine RW.q 4 rfl rfl (by kernel_rfl) Sub.any (Qt.fieldAddr0 (by kernel_rfl) rfl) ?_
      first | refine RW.q 5 rfl rfl (by kernel_rfl) Sub.any (Qt.load (by kernel_rfl) rfl rfl) ?_ | refine RW.q 5 rfl rfl (by kernel_rfl) Sub.any (Qt.load (by kernel_rfl) rfl (map_at _ _ _ (by omega))) ?_ | refine RW.q 5 rfl rfl (by kernel_rfl) Sub.any (Qt.load (by kernel_rfl) rfl (flat_cell0 _ _ _ (by intros; rfl) _ (by omega) (by rfl))) ?_ | refine RW.q 5 rfl rfl (by kernel_rfl) Sub.any (Qt.load (by kernel_rfl) rfl (flat_cell _ _ _ (by intros; rfl) _ _ (by omega) (by rfl))) ?_ | refine RW.q 5 rfl rfl (by kernel_rfl) Sub.any (Qt.load (by kernel_rfl) rfl (bytes_at _ _ (by omega))) ?_
      refine RW.q 7 rfl rfl (by kernel_rfl) Sub.any (Qt.move rfl) ?_
      refine RW.q 8 rfl rfl (by kernel_rfl) Sub.any (Qt.nilCheck rfl) ?_
      refine RW.q 9 rfl rfl (by kernel_rfl) Sub.any (Qt.fieldAddr (off := 1) (by kernel_rfl) rfl) ?_
      first | refine RW.q 10 rfl rfl (by kernel_rfl) Sub.any (Qt.load (by kernel_rfl) rfl rfl) ?_ | refine RW.q 10 rfl rfl (by kernel_rfl) Sub.any (Qt.load (by kernel_rfl) rfl (map_at _ _ _ (by omega))) ?_ | refine RW.q 10 rfl rfl (by kernel_rfl) Sub.any (Qt.load (by kernel_rfl) rfl (flat_cell0 _ _ _ (by intros; rfl) _ (by omega) (by rfl))) ?_ | refine RW.q 10 rfl rfl (by kernel_rfl) Sub.any (Qt.load (by kernel_rfl) rfl (flat_cell _ _ _ (by intros; rfl) _ _ (by omega) (by rfl))) ?_ | refine RW.q 10 rfl rfl (by kernel_rfl) Sub.any (Qt.load (by kernel_rfl) rfl (bytes_at _ _ (by omega))) ?_
      refine RW.one 6 (by kernel_rfl) ?_
      refine RO.eS rfl rfl (Ef.call (Lb.deleteS B (LT.nd h rq).ka (LT.nd h rq).kv.length (LT.nd h rq).kc 0 ((LT.nd h rq).ks.map kT) (by simp) (by omega) (by omega) one_kT) Try.func77 rfl rfl rfl ?_)
      rintro _ _ ⟨rfl, rfl⟩
      try simp only [List.cons_append, List.nil_append]
      refine ⟨Sub.any, ?_⟩
      refine RW.one 11 (by kernel_rfl) ?_
      refine RO.r rfl rfl (by kernel_rfl) (Ef.call (Lb.deleteI B (LT.nd h rq).va (LT.nd h rq).kv.length (LT.nd h rq).vc 0 ((LT.nd h rq).vs.map iV) (by simp) (by omega) (by omega) one_iV) Try.func78 rfl rfl rfl ?_)
      rintro _ _ ⟨rfl, rfl⟩
      try simp only [List.cons_append, List.nil_append]
      refine RW.q 12 rfl rfl (by kernel_rfl) (Sub.refl _) (Qt.nilCheck rfl) ?_
      refine RW.q 13 rfl rfl (by kernel_rfl) (Sub.refl _) (Qt.fieldAddr0 (by kernel_rfl) rfl) ?_
      refine RW.one 14 (by kernel_rfl) ?_
      refine RO.r0 rfl rfl (by kernel_rfl) (Ef.store1 (by kernel_rfl) rfl rfl rfl (by first | (simp; done) | (simp; omega)) ?_)
      try simp only [List.set_cons_zero, List.set_cons_succ]
      refine RW.done (by rfl) ?_
      simp only [List.drop_succ_cons, List.drop_zero, List.drop_nil]
      refine LW.q rfl (Qt.nilCheck rfl) ?_
      refine LW.q rfl (Qt.fieldAddr (off := 1) (by kernel_rfl) rfl) ?_
      refine LW.e0 rfl (Ef.store1 (by kernel_rfl) rfl rfl rfl (by first | (simp; done) | (simp; omega)) ?_)
      try simp only [List.set_cons_zero, List.set_cons_succ]
      refine LW.done ?_
      refine T.seq ?_
      refine T.seq ?_
      refine T.region ?_
      refine LW.q rfl (Qt.move rfl) ?_
      refine LW.e rfl (Ef.call (Bt.leafR B (LT.nd h rq).p (.slice (LT.nd h rq).ka ((LT.nd h rq).kv.length - 1) (LT.nd h rq).kc) (.slice (LT.nd h rq).va ((LT.nd h rq).kv.length - 1) (LT.nd h rq).vc) (LT.nd h rq).ca ((LT.ksL h rq).map fun k => (LK.nd h k).p).length (LT.nd h rq).cc) Try.func45 rfl rfl rfl ?_)
      rintro _ _ ⟨rfl, rfl⟩
      try simp only [List.cons_append, List.nil_append]
      first | refine LW.q rfl (Qt.notP rfl) ?_ | refine LW.q rfl (Qt.notB rfl) ?_
      refine LW.done ?_
      refine T.condP rfl (fun hnl => ?_) (fun hnl => ?_)
      ·
       have hkk := hkrq.2.2.1.resolve_left (fun e => by subst e; cases hq : LT.ksL 0 rq with | nil => rw [hq] at hnl; simp at hnl | cons e _ => exact e.elim)
       obtain ⟨k0, kr, hkr⟩ : ∃ k0 kr, LT.ksL h rq = k0 :: kr := by cases hq : LT.ksL h rq with | nil => rw [hq] at hkk; simp at hkk | cons a b => exact ⟨a, b, rfl⟩
       obtain ⟨bn, on, hlca, hcn⟩ := (RdV.cs (B := B) hpc).at (by rw [List.length_map]; omega)
       refine T.seq ?_
       refine T.draw 13 ([cellA (LT.nd h q).p 2 (.slice (LT.nd h q).ca ((LT.ksL h q).map fun k => (LK.nd h k).p).length (LT.nd h q).cc), cellA (LT.nd h rq).p 2 (.slice (LT.nd h rq).ca ((LT.ksL h rq).map fun k => (LK.nd h k).p).length (LT.nd h rq).cc), ndC (LT.nd h rq) ((LT.ksL h rq).map fun k => (LK.nd h k).p)]) (by kernel_rfl) (Nat.le_of_ble_eq_true rfl) (by kernel_rfl) ?_
       refine RW.q 0 rfl rfl (by kernel_rfl) Sub.any (Qt.move rfl) ?_
       refine RW.q 1 rfl rfl (by kernel_rfl) Sub.any (Qt.move rfl) ?_
       refine RW.q 2 rfl rfl (by kernel_rfl) Sub.any (Qt.nilCheck rfl) ?_
       refine RW.q 3 rfl rfl (by kernel_rfl) Sub.any (Qt.fieldAddr (off := 2) (by kernel_rfl) rfl) ?_
       refine RW.q 4 rfl rfl (by kernel_rfl) Sub.any (Qt.loadC (by kernel_rfl) rfl rfl) ?_
       refine RW.q 5 rfl rfl (by kernel_rfl) Sub.any (Qt.move rfl) ?_
       refine RW.q 6 rfl rfl (by kernel_rfl) Sub.any (Qt.nilCheck rfl) ?_
       refine RW.q 7 rfl rfl (by kernel_rfl) Sub.any (Qt.fieldAddr (off := 2) (by kernel_rfl) rfl) ?_
       refine RW.q 8 rfl rfl (by kernel_rfl) Sub.any (Qt.loadC (v := .slice (some ⟨bn, on, none⟩) ((LT.ksL h rq).map fun k => (LK.nd h k).p).length (LT.nd h rq).cc) (by kernel_rfl) rfl (by rw [hlca])) ?_
       refine RW.q 9 rfl rfl (by kernel_rfl) Sub.any (Qt.index 0 (e := 95) (sz := 1) (by kernel_rfl) rfl rfl rfl (by rw [List.length_map]; omega)) ?_
       refine RW.q 10 rfl rfl (by kernel_rfl) Sub.any (Qt.loadW (v := pV (LK.nd h k0).p) (by kernel_rfl) rfl (fun w ho => by have := hcn 0 (by simp; omega) w (ho.map Sub.any); rw [List.getElem_map, List.getElem_map] at this; simp only [hkr] at this; simpa using this)) ?_
       refine RW.one 11 (by kernel_rfl) ?_
       refine RO.eS rfl rfl (Ef.one [_] (e := 95) (sz := 1) (by kernel_rfl) ⟨.pointer none, by kernel_rfl, rfl⟩ rfl rfl rfl (by omega) (by omega) ?_)
       intro g298
       refine ⟨Sub.any, ?_⟩
       refine RW.one 12 (by kernel_rfl) ?_
       refine RO.r rfl rfl (by kernel_rfl) (Ef.append Lb.elemN rfl rfl (SrcOf.blk (by kernel_rfl) rfl (by simp [Value.oneCell'])) (by have := hkq.ksl (by omega); rw [List.length_map]; unfold maxLen; omega) (by have := hkq.ksl (by omega); rw [List.length_map]; omega) ?_)
       rintro p7 c7 hp7
       try simp only [List.cons_append, List.nil_append]
       refine RW.done (by rfl) ?_
       simp only [List.drop_succ_cons, List.drop_zero, List.drop_nil]
       refine LW.q rfl (Qt.nilCheck rfl) ?_
       refine LW.q rfl (Qt.fieldAddr (off := 2) (by kernel_rfl) rfl) ?_
       refine LW.e0 rfl (Ef.store1 (by kernel_rfl) rfl rfl rfl (by first | (simp; done) | (simp; omega)) ?_)
       try simp only [List.set_cons_zero, List.set_cons_succ]
       refine LW.done ?_
       refine T.region ?_
       refine LW.q rfl (Qt.move rfl) ?_
       refine LW.q rfl (Qt.move rfl) ?_
       refine LW.q rfl (Qt.nilCheck rfl) ?_
       refine LW.q rfl (Qt.fieldAddr (off := 2) (by kernel_rfl) rfl) ?_
       first | refine LW.q rfl (Qt.load (by kernel_rfl) rfl rfl) ?_ | refine LW.q rfl (Qt.load (by kernel_rfl) rfl (map_at _ _ _ (by omega))) ?_ | refine LW.q rfl (Qt.load (by kernel_rfl) rfl (flat_cell0 _ _ _ (by intros; rfl) _ (by omega) (by rfl))) ?_ | refine LW.q rfl (Qt.load (by kernel_rfl) rfl (flat_cell _ _ _ (by intros; rfl) _ _ (by omega) (by rfl))) ?_ | refine LW.q rfl (Qt.load (by kernel_rfl) rfl (bytes_at _ _ (by omega))) ?_
       refine LW.e rfl (Ef.call (Lb.deleteN B (LT.nd h rq).ca ((LT.ksL h rq).map fun k => (LK.nd h k).p).length (LT.nd h rq).cc 0 (((LT.ksL h rq).map fun k => (LK.nd h k).p).map pV) (by simp) (by rw [List.length_map]; omega) (by rw [List.length_map]; omega) one_pV) Try.func93 rfl rfl rfl ?_)
       rintro _ _ ⟨rfl, rfl⟩
       try simp only [List.cons_append, List.nil_append]
       refine LW.q rfl (Qt.nilCheck rfl) ?_
       refine LW.q rfl (Qt.fieldAddr (off := 2) (by kernel_rfl) rfl) ?_
       refine LW.e0 rfl (Ef.store1 (by kernel_rfl) rfl rfl rfl (by first | (simp; done) | (simp; omega)) ?_)
       try simp only [List.set_cons_zero, List.set_cons_succ]
       refine LW.done ?_
       refine T.seq ?_
       refine T.region ?_
       refine LW.q rfl (Qt.move rfl) ?_
       refine LW.q rfl (Qt.assign rfl) ?_
       refine LW.done ?_
       refine T.ret ?_
       exact ⟨.inl rfl, _, _, res [_] rfl ⟨rvT rfl, trivial⟩, (fill_right (x' := ⟨x.p, x.kv.set L1.length e, some ⟨bk, 0, none⟩, x.kc, some ⟨bv, 0, none⟩, x.vc, some ⟨bc, 0, none⟩, x.cc⟩) (y := ⟨(LT.nd h q).p, (LT.nd h q).kv ++ [sk], p5, c5, p6, c6, p7, c7⟩) (z := ⟨(LT.nd h rq).p, bv', (LT.nd h rq).ka, (LT.nd h rq).kc, (LT.nd h rq).va, (LT.nd h rq).vc, (LT.nd h rq).ca, (LT.nd h rq).cc⟩) (hok.mono (Nat.zero_le _)) hs rfl rfl hbe rfl rfl hqe (by omega) ho), (fun k K => fr_end (p5 := p5) (c5 := c5) (p6 := p6) (c6 := c6) (p7 := p7) (c7 := c7) (x := x) hka hva hca hs hbe (m1 := ((LT.ksL h q).map fun k => (LK.nd h k).p).length + 1) (by rw [hkr]; simp) (m2 := ((LT.ksL h rq).map fun k => (LK.nd h k).p).length - 1) (by rw [hkr]; simp) (aps := ((LT.ksL h q).map fun k => (LK.nd h k).p).map pV ++ [pV (LK.nd h k0).p]) (by rw [hkr]; simp) (bps := (((LT.ksL h rq).map fun k => (LK.nd h k).p).map pV).eraseIdx 0) (by rw [hkr]; simp) (Sub.any k K))⟩
      ·
       have hnl0 : (LT.ksL h rq) = [] := List.eq_nil_of_length_eq_zero (by simp at hnl; simp [hnl])
       refine T.skip ?_
       refine T.seq ?_
       refine T.region ?_
       refine LW.q rfl (Qt.move rfl) ?_
       refine LW.q rfl (Qt.assign rfl) ?_
       refine LW.done ?_
       refine T.ret ?_
       exact ⟨.inl rfl, _, _, res [_] rfl ⟨rvT rfl, trivial⟩, (fill_right (x' := ⟨x.p, x.kv.set L1.length e, some ⟨bk, 0, none⟩, x.kc, some ⟨bv, 0, none⟩, x.vc, some ⟨bc, 0, none⟩, x.cc⟩) (y := ⟨(LT.nd h q).p, (LT.nd h q).kv ++ [sk], p5, c5, p6, c6, (LT.nd h q).ca, (LT.nd h q).cc⟩) (z := ⟨(LT.nd h rq).p, bv', (LT.nd h rq).ka, (LT.nd h rq).kc, (LT.nd h rq).va, (LT.nd h rq).vc, (LT.nd h rq).ca, (LT.nd h rq).cc⟩) (hok.mono (Nat.zero_le _)) hs rfl rfl hbe rfl rfl hqe (by omega) ho), (fun k K => fr_end (p5 := p5) (c5 := c5) (p6 := p6) (c6 := c6) (p7 := (LT.nd h q).ca) (c7 := (LT.nd h q).cc) (x := x) hka hva hca hs hbe (m1 := ((LT.ksL h q).map fun k => (LK.nd h k).p).length) (by rw [hnl0]; simp) (m2 := ((LT.ksL h rq).map fun k => (LK.nd h k).p).length) (by rw [hnl0]; simp) (aps := ((LT.ksL h q).map fun k => (LK.nd h k).p).map pV) (by rw [hnl0]; simp) (bps := ((LT.ksL h rq).map fun k => (LK.nd h k).p).map pV) (by rw [hnl0]; simp) (Sub.any k K))⟩
     ·
      refine RO.eS rfl rfl (Ef.one [_] (e := 2) (sz := 1) (by kernel_rfl) ⟨.int .i64 0, by kernel_rfl, rfl⟩ rfl rfl rfl (by omega) (by omega) ?_)
      intro g238
      refine ⟨Sub.any, ?_⟩
      refine RW.one 14 (by kernel_rfl) ?_
      refine RO.eS rfl rfl (Ef.append Lb.elemS rfl rfl (SrcOf.blk (by kernel_rfl) rfl (by simp [Value.oneCell'])) (by unfold maxLen; omega) (by omega) ?_)
      rintro p5 c5 hp5
      try simp only [List.cons_append, List.nil_append]
      refine ⟨Sub.any, ?_⟩
      refine RW.one 27 (by kernel_rfl) ?_
      refine RO.r rfl rfl (by kernel_rfl) (Ef.append Lb.elemI rfl rfl (SrcOf.blk (by kernel_rfl) rfl (by simp [Value.oneCell'])) (by unfold maxLen; omega) (by omega) ?_)
      rintro p6 c6 hp6
      try simp only [List.cons_append, List.nil_append]
      refine RW.q 28 rfl rfl (by kernel_rfl) (Sub.refl _) (Qt.nilCheck rfl) ?_
      refine RW.q 29 rfl rfl (by kernel_rfl) (Sub.refl _) (Qt.fieldAddr0 (by kernel_rfl) rfl) ?_
      refine RW.one 30 (by kernel_rfl) ?_
      refine RO.r0 rfl rfl (by kernel_rfl) (Ef.store1 (by kernel_rfl) rfl rfl rfl (by first | (simp; done) | (simp; omega)) ?_)
      try simp only [List.set_cons_zero, List.set_cons_succ]
      refine RW.done (by rfl) ?_
      simp only [List.drop_succ_cons, List.drop_zero, List.drop_nil]
      refine LW.q rfl (Qt.nilCheck rfl) ?_
      refine LW.q rfl (Qt.fieldAddr (off := 1) (by kernel_rfl) rfl) ?_
      refine LW.e0 rfl (Ef.store1 (by kernel_rfl) rfl rfl rfl (by first | (simp; done) | (simp; omega)) ?_)
      try simp only [List.set_cons_zero, List.set_cons_succ]
      refine LW.done ?_
      refine T.seq ?_
      refine T.draw 24 ([xB x bk bv bc ((L1 ++ q :: rq :: M2).map fun k => (LT.nd h k).p).length, ndB (LT.nd h rq) ((LT.ksL h rq).map fun k => (LK.nd h k).p).length, ndK (LT.nd h rq), ndV (LT.nd h rq)]) (by kernel_rfl) (Nat.le_of_ble_eq_true rfl) (by kernel_rfl) ?_
      refine RW.q 0 rfl rfl (by kernel_rfl) Sub.any (Qt.move rfl) ?_
      refine RW.q 1 rfl rfl (by kernel_rfl) Sub.any (Qt.nilCheck rfl) ?_
      refine RW.q 2 rfl rfl (by kernel_rfl) Sub.any (Qt.fieldAddr0 (by kernel_rfl) rfl) ?_
      first | refine RW.q 3 rfl rfl (by kernel_rfl) Sub.any (Qt.load (by kernel_rfl) rfl rfl) ?_ | refine RW.q 3 rfl rfl (by kernel_rfl) Sub.any (Qt.load (by kernel_rfl) rfl (map_at _ _ _ (by omega))) ?_ | refine RW.q 3 rfl rfl (by kernel_rfl) Sub.any (Qt.load (by kernel_rfl) rfl (flat_cell0 _ _ _ (by intros; rfl) _ (by omega) (by rfl))) ?_ | refine RW.q 3 rfl rfl (by kernel_rfl) Sub.any (Qt.load (by kernel_rfl) rfl (flat_cell _ _ _ (by intros; rfl) _ _ (by omega) (by rfl))) ?_ | refine RW.q 3 rfl rfl (by kernel_rfl) Sub.any (Qt.load (by kernel_rfl) rfl (bytes_at _ _ (by omega))) ?_
      refine RW.q 4 rfl rfl (by kernel_rfl) Sub.any (Qt.move rfl) ?_
      refine RW.q 5 rfl rfl (by kernel_rfl) Sub.any (Qt.move rfl) ?_
      refine RW.q 6 rfl rfl (by kernel_rfl) Sub.any (Qt.nilCheck rfl) ?_
      refine RW.q 7 rfl rfl (by kernel_rfl) Sub.any (Qt.fieldAddr (off := 1) (by kernel_rfl) rfl) ?_
      first | refine RW.q 8 rfl rfl (by kernel_rfl) Sub.any (Qt.load (by kernel_rfl) rfl rfl) ?_ | refine RW.q 8 rfl rfl (by kernel_rfl) Sub.any (Qt.load (by kernel_rfl) rfl (map_at _ _ _ (by omega))) ?_ | refine RW.q 8 rfl rfl (by kernel_rfl) Sub.any (Qt.load (by kernel_rfl) rfl (flat_cell0 _ _ _ (by intros; rfl) _ (by omega) (by rfl))) ?_ | refine RW.q 8 rfl rfl (by kernel_rfl) Sub.any (Qt.load (by kernel_rfl) rfl (flat_cell _ _ _ (by intros; rfl) _ _ (by omega) (by rfl))) ?_ | refine RW.q 8 rfl rfl (by kernel_rfl) Sub.any (Qt.load (by kernel_rfl) rfl (bytes_at _ _ (by omega))) ?_
      refine RW.q 9 rfl rfl (by kernel_rfl) Sub.any (Qt.move rfl) ?_
      refine RW.q 10 rfl rfl (by kernel_rfl) Sub.any (Qt.move rfl) ?_
      refine RW.q 11 rfl rfl (by kernel_rfl) Sub.any (Qt.nilCheck rfl) ?_
      refine RW.q 12 rfl rfl (by kernel_rfl) Sub.any (Qt.fieldAddr0 (by kernel_rfl) rfl) ?_
      refine RW.q 13 rfl rfl (by kernel_rfl) Sub.any (Qt.load (v := .slice (some ⟨bl, ol, none⟩) (LT.nd h rq).kv.length (LT.nd h rq).kc) (by kernel_rfl) rfl (by rw [← hlka]; rfl)) ?_
      refine RW.q 14 rfl rfl (by kernel_rfl) Sub.any (Qt.index 0 (e := 9) (sz := 1) (by kernel_rfl) rfl rfl rfl (by omega)) ?_
      refine RW.q 15 rfl rfl (by kernel_rfl) Sub.any (Qt.loadW (v := kT e.1) (by kernel_rfl) rfl (fun w ho => by have := hcl 0 (by simp; omega) w (ho.map Sub.any); simpa [hbe] using this)) ?_
      refine RW.q 16 rfl rfl (by kernel_rfl) Sub.any (Qt.move rfl) ?_
      refine RW.q 17 rfl rfl (by kernel_rfl) Sub.any (Qt.nilCheck rfl) ?_
      refine RW.q 18 rfl rfl (by kernel_rfl) Sub.any (Qt.fieldAddr (off := 1) (by kernel_rfl) rfl) ?_
      refine RW.q 19 rfl rfl (by kernel_rfl) Sub.any (Qt.load (v := .slice (some ⟨bw, ow, none⟩) (LT.nd h rq).kv.length (LT.nd h rq).vc) (by kernel_rfl) rfl (by rw [← hlva]; rfl)) ?_
      refine RW.q 20 rfl rfl (by kernel_rfl) Sub.any (Qt.index 0 (e := 2) (sz := 1) (by kernel_rfl) rfl rfl rfl (by omega)) ?_
      refine RW.q 21 rfl rfl (by kernel_rfl) Sub.any (Qt.loadW (v := iV e.2) (by kernel_rfl) rfl (fun w ho => by have := hcw 0 (by simp; omega) w (ho.map Sub.any); simpa [hbe] using this)) ?_
      refine RW.q 22 rfl rfl (by kernel_rfl) Sub.any (Qt.index L1.length (e := 9) (sz := 1) (by kernel_rfl) rfl rfl rfl hml) ?_
      refine RW.one 23 (by kernel_rfl) ?_
      refine RO.r0 rfl rfl (by kernel_rfl) (Ef.store1 (by kernel_rfl) rfl rfl rfl (by first | (simp; done) | (simp; omega)) ?_)
      try simp only [List.set_cons_zero, List.set_cons_succ]
      refine RW.done (by rfl) ?_
      simp only [List.drop_succ_cons, List.drop_zero, List.drop_nil]
      refine LW.q rfl (Qt.index L1.length (e := 2) (sz := 1) (by kernel_rfl) rfl rfl rfl hml) ?_
      refine LW.e0 rfl (Ef.store1 (by kernel_rfl) rfl rfl rfl (by first | (simp; done) | (simp; omega)) ?_)
      try simp only [List.set_cons_zero, List.set_cons_succ]
      refine LW.done ?_
      refine T.seq ?_
      refine T.draw 15 ([ndB (LT.nd h rq) ((LT.ksL h rq).map fun k => (LK.nd h k).p).length]) (by kernel_rfl) (Nat.le_of_ble_eq_true rfl) (by kernel_rfl) ?_
      refine RW.q 0 rfl rfl (by kernel_rfl) Sub.any (Qt.move rfl) ?_
      refine RW.q 1 rfl rfl (by kernel_rfl) Sub.any (Qt.move rfl) ?_
      refine RW.q 2 rfl rfl (by kernel_rfl) Sub.any (Qt.move rfl) ?_
      refine RW.q 3 rfl rfl (by kernel_rfl) Sub.any (Qt.nilCheck rfl) ?_
      refine RW.q 4 rfl rfl (by kernel_rfl) Sub.any (Qt.fieldAddr0 (by kernel_rfl) rfl) ?_
      first | refine RW.q 5 rfl rfl (by kernel_rfl) Sub.any (Qt.load (by kernel_rfl) rfl rfl) ?_ | refine RW.q 5 rfl rfl (by kernel_rfl) Sub.any (Qt.load (by kernel_rfl) rfl (map_at _ _ _ (by omega))) ?_ | refine RW.q 5 rfl rfl (by kernel_rfl) Sub.any (Qt.load (by kernel_rfl) rfl (flat_cell0 _ _ _ (by intros; rfl) _ (by omega) (by rfl))) ?_ | refine RW.q 5 rfl rfl (by kernel_rfl) Sub.any (Qt.load (by kernel_rfl) rfl (flat_cell _ _ _ (by intros; rfl) _ _ (by omega) (by rfl))) ?_ | refine RW.q 5 rfl rfl (by kernel_rfl) Sub.any (Qt.load (by kernel_rfl) rfl (bytes_at _ _ (by omega))) ?_
      refine RW.q 7 rfl rfl (by kernel_rfl) Sub.any (Qt.move rfl) ?_
      refine RW.q 8 rfl rfl (by kernel_rfl) Sub.any (Qt.nilCheck rfl) ?_
      refine RW.q 9 rfl rfl (by kernel_rfl) Sub.any (Qt.fieldAddr (off := 1) (by kernel_rfl) rfl) ?_
      first | refine RW.q 10 rfl rfl (by kernel_rfl) Sub.any (Qt.load (by kernel_rfl) rfl rfl) ?_ | refine RW.q 10 rfl rfl (by kernel_rfl) Sub.any (Qt.load (by kernel_rfl) rfl (map_at _ _ _ (by omega))) ?_ | refine RW.q 10 rfl rfl (by kernel_rfl) Sub.any (Qt.load (by kernel_rfl) rfl (flat_cell0 _ _ _ (by intros; rfl) _ (by omega) (by rfl))) ?_ | refine RW.q 10 rfl rfl (by kernel_rfl) Sub.any (Qt.load (by kernel_rfl) rfl (flat_cell _ _ _ (by intros; rfl) _ _ (by omega) (by rfl))) ?_ | refine RW.q 10 rfl rfl (by kernel_rfl) Sub.any (Qt.load (by kernel_rfl) rfl (bytes_at _ _ (by omega))) ?_
      refine RW.one 6 (by kernel_rfl) ?_
      refine RO.eS rfl rfl (Ef.call (Lb.deleteS B (LT.nd h rq).ka (LT.nd h rq).kv.length (LT.nd h rq).kc 0 ((LT.nd h rq).ks.map kT) (by simp) (by omega) (by omega) one_kT) Try.func77 rfl rfl rfl ?_)
      rintro _ _ ⟨rfl, rfl⟩
      try simp only [List.cons_append, List.nil_append]
      refine ⟨Sub.any, ?_⟩
      refine RW.one 11 (by kernel_rfl) ?_
      refine RO.r rfl rfl (by kernel_rfl) (Ef.call (Lb.deleteI B (LT.nd h rq).va (LT.nd h rq).kv.length (LT.nd h rq).vc 0 ((LT.nd h rq).vs.map iV) (by simp) (by omega) (by omega) one_iV) Try.func78 rfl rfl rfl ?_)
      rintro _ _ ⟨rfl, rfl⟩
      try simp only [List.cons_append, List.nil_append]
      refine RW.q 12 rfl rfl (by kernel_rfl) (Sub.refl _) (Qt.nilCheck rfl) ?_
      refine RW.q 13 rfl rfl (by kernel_rfl) (Sub.refl _) (Qt.fieldAddr0 (by kernel_rfl) rfl) ?_
      refine RW.one 14 (by kernel_rfl) ?_
      refine RO.r0 rfl rfl (by kernel_rfl) (Ef.store1 (by kernel_rfl) rfl rfl rfl (by first | (simp; done) | (simp; omega)) ?_)
      try simp only [List.set_cons_zero, List.set_cons_succ]
      refine RW.done (by rfl) ?_
      simp only [List.drop_succ_cons, List.drop_zero, List.drop_nil]
      refine LW.q rfl (Qt.nilCheck rfl) ?_
      refine LW.q rfl (Qt.fieldAddr (off := 1) (by kernel_rfl) rfl) ?_
      refine LW.e0 rfl (Ef.store1 (by kernel_rfl) rfl rfl rfl (by first | (simp; done) | (simp; omega)) ?_)
      try simp only [List.set_cons_zero, List.set_cons_succ]
      refine LW.done ?_
      refine T.seq ?_
      refine T.seq ?_
      refine T.region ?_
      refine LW.q rfl (Qt.move rfl) ?_
      refine LW.e rfl (Ef.call (Bt.leafR B (LT.nd h rq).p (.slice (LT.nd h rq).ka ((LT.nd h rq).kv.length - 1) (LT.nd h rq).kc) (.slice (LT.nd h rq).va ((LT.nd h rq).kv.length - 1) (LT.nd h rq).vc) (LT.nd h rq).ca ((LT.ksL h rq).map fun k => (LK.nd h k).p).length (LT.nd h rq).cc) Try.func45 rfl rfl rfl ?_)
      rintro _ _ ⟨rfl, rfl⟩
      try simp only [List.cons_append, List.nil_append]
      first | refine LW.q rfl (Qt.notP rfl) ?_ | refine LW.q rfl (Qt.notB rfl) ?_
      refine LW.done ?_
      refine T.condP rfl (fun hnl => ?_) (fun hnl => ?_)
      ·
       have hkk := hkrq.2.2.1.resolve_left (fun e => by subst e; cases hq : LT.ksL 0 rq with | nil => rw [hq] at hnl; simp at hnl | cons e _ => exact e.elim)
       obtain ⟨k0, kr, hkr⟩ : ∃ k0 kr, LT.ksL h rq = k0 :: kr := by cases hq : LT.ksL h rq with | nil => rw [hq] at hkk; simp at hkk | cons a b => exact ⟨a, b, rfl⟩
       obtain ⟨bn, on, hlca, hcn⟩ := (RdV.cs (B := B) hpc).at (by rw [List.length_map]; omega)
       refine T.seq ?_
       refine T.draw 13 ([cellA (LT.nd h q).p 2 (.slice (LT.nd h q).ca ((LT.ksL h q).map fun k => (LK.nd h k).p).length (LT.nd h q).cc), cellA (LT.nd h rq).p 2 (.slice (LT.nd h rq).ca ((LT.ksL h rq).map fun k => (LK.nd h k).p).length (LT.nd h rq).cc), ndC (LT.nd h rq) ((LT.ksL h rq).map fun k => (LK.nd h k).p)]) (by kernel_rfl) (Nat.le_of_ble_eq_true rfl) (by kernel_rfl) ?_
       refine RW.q 0 rfl rfl (by kernel_rfl) Sub.any (Qt.move rfl) ?_
       refine RW.q 1 rfl rfl (by kernel_rfl) Sub.any (Qt.move rfl) ?_
       refine RW.q 2 rfl rfl (by kernel_rfl) Sub.any (Qt.nilCheck rfl) ?_
       refine RW.q 3 rfl rfl (by kernel_rfl) Sub.any (Qt.fieldAddr (off := 2) (by kernel_rfl) rfl) ?_
       refine RW.q 4 rfl rfl (by kernel_rfl) Sub.any (Qt.loadC (by kernel_rfl) rfl rfl) ?_
       refine RW.q 5 rfl rfl (by kernel_rfl) Sub.any (Qt.move rfl) ?_
       refine RW.q 6 rfl rfl (by kernel_rfl) Sub.any (Qt.nilCheck rfl) ?_
       refine RW.q 7 rfl rfl (by kernel_rfl) Sub.any (Qt.fieldAddr (off := 2) (by kernel_rfl) rfl) ?_
       refine RW.q 8 rfl rfl (by kernel_rfl) Sub.any (Qt.loadC (v := .slice (some ⟨bn, on, none⟩) ((LT.ksL h rq).map fun k => (LK.nd h k).p).length (LT.nd h rq).cc) (by kernel_rfl) rfl (by rw [hlca])) ?_
       refine RW.q 9 rfl rfl (by kernel_rfl) Sub.any (Qt.index 0 (e := 95) (sz := 1) (by kernel_rfl) rfl rfl rfl (by rw [List.length_map]; omega)) ?_
       refine RW.q 10 rfl rfl (by kernel_rfl) Sub.any (Qt.loadW (v := pV (LK.nd h k0).p) (by kernel_rfl) rfl (fun w ho => by have := hcn 0 (by simp; omega) w (ho.map Sub.any); rw [List.getElem_map, List.getElem_map] at this; simp only [hkr] at this; simpa using this)) ?_
       refine RW.one 11 (by kernel_rfl) ?_
       refine RO.eS rfl rfl (Ef.one [_] (e := 95) (sz := 1) (by kernel_rfl) ⟨.pointer none, by kernel_rfl, rfl⟩ rfl rfl rfl (by omega) (by omega) ?_)
       intro g298
       refine ⟨Sub.any, ?_⟩
       refine RW.one 12 (by kernel_rfl) ?_
       refine RO.r rfl rfl (by kernel_rfl) (Ef.append Lb.elemN rfl rfl (SrcOf.blk (by kernel_rfl) rfl (by simp [Value.oneCell'])) (by have := hkq.ksl (by omega); rw [List.length_map]; unfold maxLen; omega) (by have := hkq.ksl (by omega); rw [List.length_map]; omega) ?_)
       rintro p7 c7 hp7
       try simp only [List.cons_append, List.nil_append]
       refine RW.done (by rfl) ?_
       simp only [List.drop_succ_cons, List.drop_zero, List.drop_nil]
       refine LW.q rfl (Qt.nilCheck rfl) ?_
       refine LW.q rfl (Qt.fieldAddr (off := 2) (by kernel_rfl) rfl) ?_
       refine LW.e0 rfl (Ef.store1 (by kernel_rfl) rfl rfl rfl (by first | (simp; done) | (simp; omega)) ?_)
       try simp only [List.set_cons_zero, List.set_cons_succ]
       refine LW.done ?_
       refine T.region ?_
       refine LW.q rfl (Qt.move rfl) ?_
       refine LW.q rfl (Qt.move rfl) ?_
       refine LW.q rfl (Qt.nilCheck rfl) ?_
       refine LW.q rfl (Qt.fieldAddr (off := 2) (by kernel_rfl) rfl) ?_
       first | refine LW.q rfl (Qt.load (by kernel_rfl) rfl rfl) ?_ | refine LW.q rfl (Qt.load (by kernel_rfl) rfl (map_at _ _ _ (by omega))) ?_ | refine LW.q rfl (Qt.load (by kernel_rfl) rfl (flat_cell0 _ _ _ (by intros; rfl) _ (by omega) (by rfl))) ?_ | refine LW.q rfl (Qt.load (by kernel_rfl) rfl (flat_cell _ _ _ (by intros; rfl) _ _ (by omega) (by rfl))) ?_ | refine LW.q rfl (Qt.load (by kernel_rfl) rfl (bytes_at _ _ (by omega))) ?_
       refine LW.e rfl (Ef.call (Lb.deleteN B (LT.nd h rq).ca ((LT.ksL h rq).map fun k => (LK.nd h k).p).length (LT.nd h rq).cc 0 (((LT.ksL h rq).map fun k => (LK.nd h k).p).map pV) (by simp) (by rw [List.length_map]; omega) (by rw [List.length_map]; omega) one_pV) Try.func93 rfl rfl rfl ?_)
       rintro _ _ ⟨rfl, rfl⟩
       try simp only [List.cons_append, List.nil_append]
       refine LW.q rfl (Qt.nilCheck rfl) ?_
       refine LW.q rfl (Qt.fieldAddr (off := 2) (by kernel_rfl) rfl) ?_
       refine LW.e0 rfl (Ef.store1 (by kernel_rfl) rfl rfl rfl (by first | (simp; done) | (simp; omega)) ?_)
       try simp only [List.set_cons_zero, List.set_cons_succ]
       refine LW.done ?_
       refine T.seq ?_
       refine T.region ?_
       refine LW.q rfl (Qt.move rfl) ?_
       refine LW.q rfl (Qt.assign rfl) ?_
       refine LW.done ?_
       refine T.ret ?_
       exact ⟨.inl rfl, _, _, res [_] rfl ⟨rvT rfl, trivial⟩, (fill_right (x' := ⟨x.p, x.kv.set L1.length e, some ⟨bk, 0, none⟩, x.kc, some ⟨bv, 0, none⟩, x.vc, some ⟨bc, 0, none⟩, x.cc⟩) (y := ⟨(LT.nd h q).p, (LT.nd h q).kv ++ [sk], p5, c5, p6, c6, p7, c7⟩) (z := ⟨(LT.nd h rq).p, bv', (LT.nd h rq).ka, (LT.nd h rq).kc, (LT.nd h rq).va, (LT.nd h rq).vc, (LT.nd h rq).ca, (LT.nd h rq).cc⟩) (hok.mono (Nat.zero_le _)) hs rfl rfl hbe rfl rfl hqe (by omega) ho), (fun k K => fr_end (p5 := p5) (c5 := c5) (p6 := p6) (c6 := c6) (p7 := p7) (c7 := c7) (x := x) hka hva hca hs hbe (m1 := ((LT.ksL h q).map fun k => (LK.nd h k).p).length + 1) (by rw [hkr]; simp) (m2 := ((LT.ksL h rq).map fun k => (LK.nd h k).p).length - 1) (by rw [hkr]; simp) (aps := ((LT.ksL h q).map fun k => (LK.nd h k).p).map pV ++ [pV (LK.nd h k0).p]) (by rw [hkr]; simp) (bps := (((LT.ksL h rq).map fun k => (LK.nd h k).p).map pV).eraseIdx 0) (by rw [hkr]; simp) (Sub.any k K))⟩
      ·
       have hnl0 : (LT.ksL h rq) = [] := List.eq_nil_of_length_eq_zero (by simp at hnl; simp [hnl])
       refine T.skip ?_
       refine T.seq ?_
       refine T.region ?_
       refine LW.q rfl (Qt.move rfl) ?_
       refine LW.q rfl (Qt.assign rfl) ?_
       refine LW.done ?_
       refine T.ret ?_
       exact ⟨.inl rfl, _, _, res [_] rfl ⟨rvT rfl, trivial⟩, (fill_right (x' := ⟨x.p, x.kv.set L1.length e, some ⟨bk, 0, none⟩, x.kc, some ⟨bv, 0, none⟩, x.vc, some ⟨bc, 0, none⟩, x.cc⟩) (y := ⟨(LT.nd h q).p, (LT.nd h q).kv ++ [sk], p5, c5, p6, c6, (LT.nd h q).ca, (LT.nd h q).cc⟩) (z := ⟨(LT.nd h rq).p, bv', (LT.nd h rq).ka, (LT.nd h rq).kc, (LT.nd h rq).va, (LT.nd h rq).vc, (LT.nd h rq).ca, (LT.nd h rq).cc⟩) (hok.mono (Nat.zero_le _)) hs rfl rfl hbe rfl rfl hqe (by omega) ho), (fun k K => fr_end (p5 := p5) (c5 := c5) (p6 := p6) (c6 := c6) (p7 := (LT.nd h q).ca) (c7 := (LT.nd h q).cc) (x := x) hka hva hca hs hbe (m1 := ((LT.ksL h q).map fun k => (LK.nd h k).p).length) (by rw [hnl0]; simp) (m2 := ((LT.ksL h rq).map fun k => (LK.nd h k).p).length) (by rw [hnl0]; simp) (aps := ((LT.ksL h q).map fun k => (LK.nd h k).p).map pV) (by rw [hnl0]; simp) (bps := ((LT.ksL h rq).map fun k => (LK.nd h k).p).map pV) (by rw [hnl0]; simp) (Sub.any k K))⟩
    ·
     refine RO.eS rfl rfl (Ef.one [_] (e := 2) (sz := 1) (by kernel_rfl) ⟨.int .i64 0, by kernel_rfl, rfl⟩ rfl rfl rfl (by omega) (by omega) ?_)
     intro g238
     refine ⟨Sub.any, ?_⟩
     refine RW.one 13 (by kernel_rfl) ?_
     refine RO.eS rfl rfl (Ef.one [_] (e := 9) (sz := 1) (by kernel_rfl) ⟨.string .empty, by kernel_rfl, rfl⟩ rfl rfl rfl (by omega) (by omega) ?_)
     intro g225
     refine ⟨Sub.any, ?_⟩
     refine RW.one 14 (by kernel_rfl) ?_
     refine RO.eS rfl rfl (Ef.append Lb.elemS rfl rfl (SrcOf.blk (by kernel_rfl) rfl (by simp [Value.oneCell'])) (by unfold maxLen; omega) (by omega) ?_)
     rintro p5 c5 hp5
     try simp only [List.cons_append, List.nil_append]
     refine ⟨Sub.any, ?_⟩
     refine RW.one 27 (by kernel_rfl) ?_
     refine RO.r rfl rfl (by kernel_rfl) (Ef.append Lb.elemI rfl rfl (SrcOf.blk (by kernel_rfl) rfl (by simp [Value.oneCell'])) (by unfold maxLen; omega) (by omega) ?_)
     rintro p6 c6 hp6
     try simp only [List.cons_append, List.nil_append]
     refine RW.q 28 rfl rfl (by kernel_rfl) (Sub.refl _) (Qt.nilCheck rfl) ?_
     refine RW.q 29 rfl rfl (by kernel_rfl) (Sub.refl _) (Qt.fieldAddr0 (by kernel_rfl) rfl) ?_
     refine RW.one 30 (by kernel_rfl) ?_
     refine RO.r0 rfl rfl (by kernel_rfl) (Ef.store1 (by kernel_rfl) rfl rfl rfl (by first | (simp; done) | (simp; omega)) ?_)
     try simp only [List.set_cons_zero, List.set_cons_succ]
     refine RW.done (by rfl) ?_
     simp only [List.drop_succ_cons, List.drop_zero, List.drop_nil]
     refine LW.q rfl (Qt.nilCheck rfl) ?_
     refine LW.q rfl (Qt.fieldAddr (off := 1) (by kernel_rfl) rfl) ?_
     refine LW.e0 rfl (Ef.store1 (by kernel_rfl) rfl rfl rfl (by first | (simp; done) | (simp; omega)) ?_)
     try simp only [List.set_cons_zero, List.set_cons_succ]
     refine LW.done ?_
     refine T.seq ?_
     refine T.draw 24 ([xB x bk bv bc ((L1 ++ q :: rq :: M2).map fun k => (LT.nd h k).p).length, ndB (LT.nd h rq) ((LT.ksL h rq).map fun k => (LK.nd h k).p).length, ndK (LT.nd h rq), ndV (LT.nd h rq)]) (by kernel_rfl) (Nat.le_of_ble_eq_true rfl) (by kernel_rfl) ?_
     refine RW.q 0 rfl rfl (by kernel_rfl) Sub.any (Qt.move rfl) ?_
     refine RW.q 1 rfl rfl (by kernel_rfl) Sub.any (Qt.nilCheck rfl) ?_
     refine RW.q 2 rfl rfl (by kernel_rfl) Sub.any (Qt.fieldAddr0 (by kernel_rfl) rfl) ?_
     first | refine RW.q 3 rfl rfl (by kernel_rfl) Sub.any (Qt.load (by kernel_rfl) rfl rfl) ?_ | refine RW.q 3 rfl rfl (by kernel_rfl) Sub.any (Qt.load (by kernel_rfl) rfl (map_at _ _ _ (by omega))) ?_ | refine RW.q 3 rfl rfl (by kernel_rfl) Sub.any (Qt.load (by kernel_rfl) rfl (flat_cell0 _ _ _ (by intros; rfl) _ (by omega) (by rfl))) ?_ | refine RW.q 3 rfl rfl (by kernel_rfl) Sub.any (Qt.load (by kernel_rfl) rfl (flat_cell _ _ _ (by intros; rfl) _ _ (by omega) (by rfl))) ?_ | refine RW.q 3 rfl rfl (by kernel_rfl) Sub.any (Qt.load (by kernel_rfl) rfl (bytes_at _ _ (by omega))) ?_
     refine RW.q 4 rfl rfl (by kernel_rfl) Sub.any (Qt.move rfl) ?_
     refine RW.q 5 rfl rfl (by kernel_rfl) Sub.any (Qt.move rfl) ?_
     refine RW.q 6 rfl rfl (by kernel_rfl) Sub.any (Qt.nilCheck rfl) ?_
     refine RW.q 7 rfl rfl (by kernel_rfl) Sub.any (Qt.fieldAddr (off := 1) (by kernel_rfl) rfl) ?_
     first | refine RW.q 8 rfl rfl (by kernel_rfl) Sub.any (Qt.load (by kernel_rfl) rfl rfl) ?_ | refine RW.q 8 rfl rfl (by kernel_rfl) Sub.any (Qt.load (by kernel_rfl) rfl (map_at _ _ _ (by omega))) ?_ | refine RW.q 8 rfl rfl (by kernel_rfl) Sub.any (Qt.load (by kernel_rfl) rfl (flat_cell0 _ _ _ (by intros; rfl) _ (by omega) (by rfl))) ?_ | refine RW.q 8 rfl rfl (by kernel_rfl) Sub.any (Qt.load (by kernel_rfl) rfl (flat_cell _ _ _ (by intros; rfl) _ _ (by omega) (by rfl))) ?_ | refine RW.q 8 rfl rfl (by kernel_rfl) Sub.any (Qt.load (by kernel_rfl) rfl (bytes_at _ _ (by omega))) ?_
     refine RW.q 9 rfl rfl (by kernel_rfl) Sub.any (Qt.move rfl) ?_
     refine RW.q 10 rfl rfl (by kernel_rfl) Sub.any (Qt.move rfl) ?_
     refine RW.q 11 rfl rfl (by kernel_rfl) Sub.any (Qt.nilCheck rfl) ?_
     refine RW.q 12 rfl rfl (by kernel_rfl) Sub.any (Qt.fieldAddr0 (by kernel_rfl) rfl) ?_
     refine RW.q 13 rfl rfl (by kernel_rfl) Sub.any (Qt.load (v := .slice (some ⟨bl, ol, none⟩) (LT.nd h rq).kv.length (LT.nd h rq).kc) (by kernel_rfl) rfl (by rw [← hlka]; rfl)) ?_
     refine RW.q 14 rfl rfl (by kernel_rfl) Sub.any (Qt.index 0 (e := 9) (sz := 1) (by kernel_rfl) rfl rfl rfl (by omega)) ?_
     refine RW.q 15 rfl rfl (by kernel_rfl) Sub.any (Qt.loadW (v := kT e.1) (by kernel_rfl) rfl (fun w ho => by have := hcl 0 (by simp; omega) w (ho.map Sub.any); simpa [hbe] using this)) ?_
     refine RW.q 16 rfl rfl (by kernel_rfl) Sub.any (Qt.move rfl) ?_
     refine RW.q 17 rfl rfl (by kernel_rfl) Sub.any (Qt.nilCheck rfl) ?_
     refine RW.q 18 rfl rfl (by kernel_rfl) Sub.any (Qt.fieldAddr (off := 1) (by kernel_rfl) rfl) ?_
     refine RW.q 19 rfl rfl (by kernel_rfl) Sub.any (Qt.load (v := .slice (some ⟨bw, ow, none⟩) (LT.nd h rq).kv.length (LT.nd h rq).vc) (by kernel_rfl) rfl (by rw [← hlva]; rfl)) ?_
     refine RW.q 20 rfl rfl (by kernel_rfl) Sub.any (Qt.index 0 (e := 2) (sz := 1) (by kernel_rfl) rfl rfl rfl (by omega)) ?_
     refine RW.q 21 rfl rfl (by kernel_rfl) Sub.any (Qt.loadW (v := iV e.2) (by kernel_rfl) rfl (fun w ho => by have := hcw 0 (by simp; omega) w (ho.map Sub.any); simpa [hbe] using this)) ?_
     refine RW.q 22 rfl rfl (by kernel_rfl) Sub.any (Qt.index L1.length (e := 9) (sz := 1) (by kernel_rfl) rfl rfl rfl hml) ?_
     refine RW.one 23 (by kernel_rfl) ?_
     refine RO.r0 rfl rfl (by kernel_rfl) (Ef.store1 (by kernel_rfl) rfl rfl rfl (by first | (simp; done) | (simp; omega)) ?_)
     try simp only [List.set_cons_zero, List.set_cons_succ]
     refine RW.done (by rfl) ?_
     simp only [List.drop_succ_cons, List.drop_zero, List.drop_nil]
     refine LW.q rfl (Qt.index L1.length (e := 2) (sz := 1) (by kernel_rfl) rfl rfl rfl hml) ?_
     refine LW.e0 rfl (Ef.store1 (by kernel_rfl) rfl rfl rfl (by first | (simp; done) | (simp; omega)) ?_)
     try simp only [List.set_cons_zero, List.set_cons_succ]
     refine LW.done ?_
     refine T.seq ?_
     refine T.draw 15 ([ndB (LT.nd h rq) ((LT.ksL h rq).map fun k => (LK.nd h k).p).length]) (by kernel_rfl) (Nat.le_of_ble_eq_true rfl) (by kernel_rfl) ?_
     refine RW.q 0 rfl rfl (by kernel_rfl) Sub.any (Qt.move rfl) ?_
     refine RW.q 1 rfl rfl (by kernel_rfl) Sub.any (Qt.move rfl) ?_
     refine RW.q 2 rfl rfl (by kernel_rfl) Sub.any (Qt.move rfl) ?_
     refine RW.q 3 rfl rfl (by kernel_rfl) Sub.any (Qt.nilCheck rfl) ?_
     refine RW.q 4 rfl rfl (by kernel_rfl) Sub.any (Qt.fieldAddr0 (by kernel_rfl) rfl) ?_
     first | refine RW.q 5 rfl rfl (by kernel_rfl) Sub.any (Qt.load (by kernel_rfl) rfl rfl) ?_ | refine RW.q 5 rfl rfl (by kernel_rfl) Sub.any (Qt.load (by kernel_rfl) rfl (map_at _ _ _ (by omega))) ?_ | refine RW.q 5 rfl rfl (by kernel_rfl) Sub.any (Qt.load (by kernel_rfl) rfl (flat_cell0 _ _ _ (by intros; rfl) _ (by omega) (by rfl))) ?_ | refine RW.q 5 rfl rfl (by kernel_rfl) Sub.any (Qt.load (by kernel_rfl) rfl (flat_cell _ _ _ (by intros; rfl) _ _ (by omega) (by rfl))) ?_ | refine RW.q 5 rfl rfl (by kernel_rfl) Sub.any (Qt.load (by kernel_rfl) rfl (bytes_at _ _ (by omega))) ?_
     refine RW.q 7 rfl rfl (by kernel_rfl) Sub.any (Qt.move rfl) ?_
     refine RW.q 8 rfl rfl (by kernel_rfl) Sub.any (Qt.nilCheck rfl) ?_
     refine RW.q 9 rfl rfl (by kernel_rfl) Sub.any (Qt.fieldAddr (off := 1) (by kernel_rfl) rfl) ?_
     first | refine RW.q 10 rfl rfl (by kernel_rfl) Sub.any (Qt.load (by kernel_rfl) rfl rfl) ?_ | refine RW.q 10 rfl rfl (by kernel_rfl) Sub.any (Qt.load (by kernel_rfl) rfl (map_at _ _ _ (by omega))) ?_ | refine RW.q 10 rfl rfl (by kernel_rfl) Sub.any (Qt.load (by kernel_rfl) rfl (flat_cell0 _ _ _ (by intros; rfl) _ (by omega) (by rfl))) ?_ | refine RW.q 10 rfl rfl (by kernel_rfl) Sub.any (Qt.load (by kernel_rfl) rfl (flat_cell _ _ _ (by intros; rfl) _ _ (by omega) (by rfl))) ?_ | refine RW.q 10 rfl rfl (by kernel_rfl) Sub.any (Qt.load (by kernel_rfl) rfl (bytes_at _ _ (by omega))) ?_
     refine RW.one 6 (by kernel_rfl) ?_
     refine RO.eS rfl rfl (Ef.call (Lb.deleteS B (LT.nd h rq).ka (LT.nd h rq).kv.length (LT.nd h rq).kc 0 ((LT.nd h rq).ks.map kT) (by simp) (by omega) (by omega) one_kT) Try.func77 rfl rfl rfl ?_)
     rintro _ _ ⟨rfl, rfl⟩
     try simp only [List.cons_append, List.nil_append]
     refine ⟨Sub.any, ?_⟩
     refine RW.one 11 (by kernel_rfl) ?_
     refine RO.r rfl rfl (by kernel_rfl) (Ef.call (Lb.deleteI B (LT.nd h rq).va (LT.nd h rq).kv.length (LT.nd h rq).vc 0 ((LT.nd h rq).vs.map iV) (by simp) (by omega) (by omega) one_iV) Try.func78 rfl rfl rfl ?_)
     rintro _ _ ⟨rfl, rfl⟩
     try simp only [List.cons_append, List.nil_append]
     refine RW.q 12 rfl rfl (by kernel_rfl) (Sub.refl _) (Qt.nilCheck rfl) ?_
     refine RW.q 13 rfl rfl (by kernel_rfl) (Sub.refl _) (Qt.fieldAddr0 (by kernel_rfl) rfl) ?_
     refine RW.one 14 (by kernel_rfl) ?_
     refine RO.r0 rfl rfl (by kernel_rfl) (Ef.store1 (by kernel_rfl) rfl rfl rfl (by first | (simp; done) | (simp; omega)) ?_)
     try simp only [List.set_cons_zero, List.set_cons_succ]
     refine RW.done (by rfl) ?_
     simp only [List.drop_succ_cons, List.drop_zero, List.drop_nil]
     refine LW.q rfl (Qt.nilCheck rfl) ?_
     refine LW.q rfl (Qt.fieldAddr (off := 1) (by kernel_rfl) rfl) ?_
     refine LW.e0 rfl (Ef.store1 (by kernel_rfl) rfl rfl rfl (by first | (simp; done) | (simp; omega)) ?_)
     try simp only [List.set_cons_zero, List.set_cons_succ]
     refine LW.done ?_
     refine T.seq ?_
     refine T.seq ?_
     refine T.region ?_
     refine LW.q rfl (Qt.move rfl) ?_
     refine LW.e rfl (Ef.call (Bt.leafR B (LT.nd h rq).p (.slice (LT.nd h rq).ka ((LT.nd h rq).kv.length - 1) (LT.nd h rq).kc) (.slice (LT.nd h rq).va ((LT.nd h rq).kv.length - 1) (LT.nd h rq).vc) (LT.nd h rq).ca ((LT.ksL h rq).map fun k => (LK.nd h k).p).length (LT.nd h rq).cc) Try.func45 rfl rfl rfl ?_)
     rintro _ _ ⟨rfl, rfl⟩
     try simp only [List.cons_append, List.nil_append]
     first | refine LW.q rfl (Qt.notP rfl) ?_ | refine LW.q rfl (Qt.notB rfl) ?_
     refine LW.done ?_
     refine T.condP rfl (fun hnl => ?_) (fun hnl => ?_)
     ·
      have hkk := hkrq.2.2.1.resolve_left (fun e => by subst e; cases hq : LT.ksL 0 rq with | nil => rw [hq] at hnl; simp at hnl | cons e _ => exact e.elim)
      obtain ⟨k0, kr, hkr⟩ : ∃ k0 kr, LT.ksL h rq = k0 :: kr := by cases hq : LT.ksL h rq with | nil => rw [hq] at hkk; simp at hkk | cons a b => exact ⟨a, b, rfl⟩
      obtain ⟨bn, on, hlca, hcn⟩ := (RdV.cs (B := B) hpc).at (by rw [List.length_map]; omega)
      refine T.seq ?_
      refine T.draw 13 ([cellA (LT.nd h q).p 2 (.slice (LT.nd h q).ca ((LT.ksL h q).map fun k => (LK.nd h k).p).length (LT.nd h q).cc), cellA (LT.nd h rq).p 2 (.slice (LT.nd h rq).ca ((LT.ksL h rq).map fun k => (LK.nd h k).p).length (LT.nd h rq).cc), ndC (LT.nd h rq) ((LT.ksL h rq).map fun k => (LK.nd h k).p)]) (by kernel_rfl) (Nat.le_of_ble_eq_true rfl) (by kernel_rfl) ?_
      refine RW.q 0 rfl rfl (by kernel_rfl) Sub.any (Qt.move rfl) ?_
      refine RW.q 1 rfl rfl (by kernel_rfl) Sub.any (Qt.move rfl) ?_
      refine RW.q 2 rfl rfl (by kernel_rfl) Sub.any (Qt.nilCheck rfl) ?_
      refine RW.q 3 rfl rfl (by kernel_rfl) Sub.any (Qt.fieldAddr (off := 2) (by kernel_rfl) rfl) ?_
      refine RW.q 4 rfl rfl (by kernel_rfl) Sub.any (Qt.loadC (by kernel_rfl) rfl rfl) ?_
      refine RW.q 5 rfl rfl (by kernel_rfl) Sub.any (Qt.move rfl) ?_
      refine RW.q 6 rfl rfl (by kernel_rfl) Sub.any (Qt.nilCheck rfl) ?_
      refine RW.q 7 rfl rfl (by kernel_rfl) Sub.any (Qt.fieldAddr (off := 2) (by kernel_rfl) rfl) ?_
      refine RW.q 8 rfl rfl (by kernel_rfl) Sub.any (Qt.loadC (v := .slice (some ⟨bn, on, none⟩) ((LT.ksL h rq).map fun k => (LK.nd h k).p).length (LT.nd h rq).cc) (by kernel_rfl) rfl (by rw [hlca])) ?_
      refine RW.q 9 rfl rfl (by kernel_rfl) Sub.any (Qt.index 0 (e := 95) (sz := 1) (by kernel_rfl) rfl rfl rfl (by rw [List.length_map]; omega)) ?_
      refine RW.q 10 rfl rfl (by kernel_rfl) Sub.any (Qt.loadW (v := pV (LK.nd h k0).p) (by kernel_rfl) rfl (fun w ho => by have := hcn 0 (by simp; omega) w (ho.map Sub.any); rw [List.getElem_map, List.getElem_map] at this; simp only [hkr] at this; simpa using this)) ?_
      refine RW.one 11 (by kernel_rfl) ?_
      refine RO.eS rfl rfl (Ef.one [_] (e := 95) (sz := 1) (by kernel_rfl) ⟨.pointer none, by kernel_rfl, rfl⟩ rfl rfl rfl (by omega) (by omega) ?_)
      intro g298
      refine ⟨Sub.any, ?_⟩
      refine RW.one 12 (by kernel_rfl) ?_
      refine RO.r rfl rfl (by kernel_rfl) (Ef.append Lb.elemN rfl rfl (SrcOf.blk (by kernel_rfl) rfl (by simp [Value.oneCell'])) (by have := hkq.ksl (by omega); rw [List.length_map]; unfold maxLen; omega) (by have := hkq.ksl (by omega); rw [List.length_map]; omega) ?_)
      rintro p7 c7 hp7
      try simp only [List.cons_append, List.nil_append]
      refine RW.done (by rfl) ?_
      simp only [List.drop_succ_cons, List.drop_zero, List.drop_nil]
      refine LW.q rfl (Qt.nilCheck rfl) ?_
      refine LW.q rfl (Qt.fieldAddr (off := 2) (by kernel_rfl) rfl) ?_
      refine LW.e0 rfl (Ef.store1 (by kernel_rfl) rfl rfl rfl (by first | (simp; done) | (simp; omega)) ?_)
      try simp only [List.set_cons_zero, List.set_cons_succ]
      refine LW.done ?_
      refine T.region ?_
      refine LW.q rfl (Qt.move rfl) ?_
      refine LW.q rfl (Qt.move rfl) ?_
      refine LW.q rfl (Qt.nilCheck rfl) ?_
      refine LW.q rfl (Qt.fieldAddr (off := 2) (by kernel_rfl) rfl) ?_
      first | refine LW.q rfl (Qt.load (by kernel_rfl) rfl rfl) ?_ | refine LW.q rfl (Qt.load (by kernel_rfl) rfl (map_at _ _ _ (by omega))) ?_ | refine LW.q rfl (Qt.load (by kernel_rfl) rfl (flat_cell0 _ _ _ (by intros; rfl) _ (by omega) (by rfl))) ?_ | refine LW.q rfl (Qt.load (by kernel_rfl) rfl (flat_cell _ _ _ (by intros; rfl) _ _ (by omega) (by rfl))) ?_ | refine LW.q rfl (Qt.load (by kernel_rfl) rfl (bytes_at _ _ (by omega))) ?_
      refine LW.e rfl (Ef.call (Lb.deleteN B (LT.nd h rq).ca ((LT.ksL h rq).map fun k => (LK.nd h k).p).length (LT.nd h rq).cc 0 (((LT.ksL h rq).map fun k => (LK.nd h k).p).map pV) (by simp) (by rw [List.length_map]; omega) (by rw [List.length_map]; omega) one_pV) Try.func93 rfl rfl rfl ?_)
      rintro _ _ ⟨rfl, rfl⟩
      try simp only [List.cons_append, List.nil_append]
      refine LW.q rfl (Qt.nilCheck rfl) ?_
      refine LW.q rfl (Qt.fieldAddr (off := 2) (by kernel_rfl) rfl) ?_
      refine LW.e0 rfl (Ef.store1 (by kernel_rfl) rfl rfl rfl (by first | (simp; done) | (simp; omega)) ?_)
      try simp only [List.set_cons_zero, List.set_cons_succ]
      refine LW.done ?_
      refine T.seq ?_
      refine T.region ?_
      refine LW.q rfl (Qt.move rfl) ?_
      refine LW.q rfl (Qt.assign rfl) ?_
      refine LW.done ?_
      refine T.ret ?_
      exact ⟨.inl rfl, _, _, res [_] rfl ⟨rvT rfl, trivial⟩, (fill_right (x' := ⟨x.p, x.kv.set L1.length e, some ⟨bk, 0, none⟩, x.kc, some ⟨bv, 0, none⟩, x.vc, some ⟨bc, 0, none⟩, x.cc⟩) (y := ⟨(LT.nd h q).p, (LT.nd h q).kv ++ [sk], p5, c5, p6, c6, p7, c7⟩) (z := ⟨(LT.nd h rq).p, bv', (LT.nd h rq).ka, (LT.nd h rq).kc, (LT.nd h rq).va, (LT.nd h rq).vc, (LT.nd h rq).ca, (LT.nd h rq).cc⟩) (hok.mono (Nat.zero_le _)) hs rfl rfl hbe rfl rfl hqe (by omega) ho), (fun k K => fr_end (p5 := p5) (c5 := c5) (p6 := p6) (c6 := c6) (p7 := p7) (c7 := c7) (x := x) hka hva hca hs hbe (m1 := ((LT.ksL h q).map fun k => (LK.nd h k).p).length + 1) (by rw [hkr]; simp) (m2 := ((LT.ksL h rq).map fun k => (LK.nd h k).p).length - 1) (by rw [hkr]; simp) (aps := ((LT.ksL h q).map fun k => (LK.nd h k).p).map pV ++ [pV (LK.nd h k0).p]) (by rw [hkr]; simp) (bps := (((LT.ksL h rq).map fun k => (LK.nd h k).p).map pV).eraseIdx 0) (by rw [hkr]; simp) (Sub.any k K))⟩
     ·
      have hnl0 : (LT.ksL h rq) = [] := List.eq_nil_of_length_eq_zero (by simp at hnl; simp [hnl])
      refine T.skip ?_
      refine T.seq ?_
      refine T.region ?_
      refine LW.q rfl (Qt.move rfl) ?_
      refine LW.q rfl (Qt.assign rfl) ?_
      refine LW.done ?_
      refine T.ret ?_
      exact ⟨.inl rfl, _, _, res [_] rfl ⟨rvT rfl, trivial⟩, (fill_right (x' := ⟨x.p, x.kv.set L1.length e, some ⟨bk, 0, none⟩, x.kc, some ⟨bv, 0, none⟩, x.vc, some ⟨bc, 0, none⟩, x.cc⟩) (y := ⟨(LT.nd h q).p, (LT.nd h q).kv ++ [sk], p5, c5, p6, c6, (LT.nd h q).ca, (LT.nd h q).cc⟩) (z := ⟨(LT.nd h rq).p, bv', (LT.nd h rq).ka, (LT.nd h rq).kc, (LT.nd h rq).va, (LT.nd h rq).vc, (LT.nd h rq).ca, (LT.nd h rq).cc⟩) (hok.mono (Nat.zero_le _)) hs rfl rfl hbe rfl rfl hqe (by omega) ho), (fun k K => fr_end (p5 := p5) (c5 := c5) (p6 := p6) (c6 := c6) (p7 := (LT.nd h q).ca) (c7 := (LT.nd h q).cc) (x := x) hka hva hca hs hbe (m1 := ((LT.ksL h q).map fun k => (LK.nd h k).p).length) (by rw [hnl0]; simp) (m2 := ((LT.ksL h rq).map fun k => (LK.nd h k).p).length) (by rw [hnl0]; simp) (aps := ((LT.ksL h q).map fun k => (LK.nd h k).p).map pV) (by rw [hnl0]; simp) (bps := ((LT.ksL h rq).map fun k => (LK.nd h k).p).map pV) (by rw [hnl0]; simp) (Sub.any k K))⟩
   ·
    refine T.skip ?_
    exact ⟨_, ⟨_, 0, fun rq' M2' e => (by cases e; have := hkrq.2.1; omega), (updS rfl (updS rfl (updS rfl rfl))), rfl⟩, fun k K => Has.swap (Has.shutx2 hka hva hca (m := trB g o r cnt :: F) (Sub.any k K))⟩
 rintro fz lz ⟨f0, n, hright, rfl, rfl⟩
 try simp only [List.cons_append, List.nil_append]
 refine T.conv (l' := opx1 h x bk bv bc L1 q L2 (trB g o r cnt :: F)) (fun w ho => ho.map fun k K => Has.openx1 hka hva hca (Has.swap K)) ?_
 simp only [opx1, opx2, ndX]
 refine T.seq ?_
 refine T.seq ?_
 refine T.region ?_
 refine LW.q rfl (Qt.move rfl) ?_
 refine LW.q rfl (Qt.move rfl) ?_
 refine LW.q rfl (Qt.nilCheck rfl) ?_
 refine LW.q rfl (Qt.fieldAddr0 (by kernel_rfl) rfl) ?_
 first | refine LW.q rfl (Qt.load (by kernel_rfl) rfl rfl) ?_ | refine LW.q rfl (Qt.load (by kernel_rfl) rfl (map_at _ _ _ (by omega))) ?_ | refine LW.q rfl (Qt.load (by kernel_rfl) rfl (flat_cell0 _ _ _ (by intros; rfl) _ (by omega) (by rfl))) ?_ | refine LW.q rfl (Qt.load (by kernel_rfl) rfl (flat_cell _ _ _ (by intros; rfl) _ _ (by omega) (by rfl))) ?_ | refine LW.q rfl (Qt.load (by kernel_rfl) rfl (bytes_at _ _ (by omega))) ?_
 refine LW.q rfl (Qt.len (e := 9) (sz := 1) (by kernel_rfl) rfl) ?_
 refine LW.q rfl (Qt.eql rfl rfl) ?_
 refine LW.done ?_
 refine T.condP rfl (fun hend => ?_) (fun hend => ?_)
 ·
  have hL2 : L2 = [] := List.eq_nil_of_length_eq_zero (by omega)
  subst hL2
  have hL1 : L1 ≠ [] := fun e => by rw [e] at hll; simp at hll; omega
  obtain ⟨M1, lq, rfl⟩ : ∃ M1 lq, L1 = M1 ++ [lq] := ⟨_, _, (List.dropLast_concat_getLast hL1).symm⟩
  have eL : (M1 ++ [lq]) ++ q :: [] = M1 ++ lq :: q :: [] := by simp
  refine T.conv (l' := trB g o r cnt :: treeA (h + 1) (LT.mk (h + 1) x (M1 ++ lq :: q :: [])) :: F) (fun w ho => ho.map fun k K => by rw [← eL]; exact Has.swap (Has.shutx1 hka hva hca (m := trB g o r cnt :: F) K)) ?_
  refine T.region ?_
  refine LW.q rfl (Qt.move rfl) ?_
  refine LW.q rfl (Qt.sub (r := (M1.length : Int)) rfl rfl (by rw [wr64 (by simp only [List.length_append, List.length_singleton]; omega) (by simp only [List.length_append, List.length_singleton] at hll ⊢; omega)]; simp)) ?_
  refine LW.q rfl (Qt.assign rfl) ?_
  refine LW.done ?_
  refine T.seq ?_
  refine T.region ?_
  refine LW.q rfl (Qt.move rfl) ?_
  refine LW.q rfl (Qt.move rfl) ?_
  refine LW.q rfl (Qt.move rfl) ?_
  refine LW.e rfl (Ef.call (Bt.mergeT B g o 1 h x M1 [] lq q ho ho2 (by rw [← eL]; exact hok) (hleft M1 lq rfl) hqe) Try.func81 rfl rfl rfl ?_)
  rintro _ _ ⟨x', c, s, e1, e2, e3, e4, e5, e6, rfl, rfl⟩
  try simp only [List.cons_append, List.nil_append]
  refine LW.q rfl (Qt.assign rfl) ?_
  refine LW.done ?_
  refine T.ret ?_
  exact ⟨.inl rfl, _, _, res [_] rfl ⟨rvT rfl, trivial⟩, (fill_merge (lo := 1) (M1 := M1) (M2 := []) (a := lq) (b := q) (by rw [← eL]; exact hok) e2 e3 e1 e4 e5 e6 ho eL (.inr rfl)), Sub.any⟩
 ·
  obtain ⟨rq, M2, rfl⟩ : ∃ rq M2, L2 = rq :: M2 := by cases L2 with | nil => exact absurd (by simp at hll; omega) hend | cons a b => exact ⟨a, b, rfl⟩
  refine T.conv (l' := trB g o r cnt :: treeA (h + 1) (LT.mk (h + 1) x (L1 ++ q :: rq :: M2)) :: F) (fun w ho => ho.map fun k K => Has.swap (Has.shutx1 hka hva hca (m := trB g o r cnt :: F) K)) ?_
  refine T.skip ?_
  refine T.seq ?_
  refine T.region ?_
  refine LW.q rfl (Qt.move rfl) ?_
  refine LW.q rfl (Qt.move rfl) ?_
  refine LW.q rfl (Qt.move rfl) ?_
  refine LW.e rfl (Ef.call (Bt.mergeT B g o 1 h x L1 M2 q rq ho ho2 hok hqe (hright rq M2 rfl)) Try.func81 rfl rfl rfl ?_)
  rintro _ _ ⟨x', c, s, e1, e2, e3, e4, e5, e6, rfl, rfl⟩
  try simp only [List.cons_append, List.nil_append]
  refine LW.q rfl (Qt.assign rfl) ?_
  refine LW.done ?_
  refine T.ret ?_
  exact ⟨.inl rfl, _, _, res [_] rfl ⟨rvT rfl, trivial⟩, (fill_merge (lo := 1) (M1 := L1) (M2 := M2) (a := q) (b := rq) hok e2 e3 e1 e4 e5 e6 ho rfl (.inl rfl)), Sub.any⟩
end Go.Proofs.Ytefognjcognknaa
