/- The texts BtQ, one behind the other: what the law leans on. Conditions: as each theorem says. -/
import Derived.Test.YtefognjcognknaaZRiBasf8
/- btree: fill's ends in memory. Conditions: sizes. -/
set_option linter.unusedSimpArgs false
set_option linter.unusedVariables false
namespace Go.Proofs.Ytefognjcognknaa
open Go.RowKit
theorem okN.ksl {o lo h : Nat} {t : LT h} (hk : okN o lo h t) (ho : 1 ≤ o) : (LT.ksL h t).length ≤ 2 * o := by
  rcases hk.2.2.1 with e | e
  · subst e; exact Nat.zero_le _
  · have := hk.1; omega
theorem Has.nodeCL {x : Nd} {ps : List Nat} {m1 m3 : Nat} {xs1 xs2 xs3 : List Value} {l : List Assn} {k : Piece} (e1 : m1 = x.kv.length) (e3 : m3 = ps.length) (h1 : xs1 = x.ks.map kT) (h2 : xs2 = x.vs.map iV) (h3 : xs3 = ps.map pV)
    (H : Has (blk x.p [.slice x.ka m1 x.kc, .slice x.va m1 x.vc, .slice x.ca m3 x.cc] 98 :: row (.slice x.ka m1 x.kc) 9 1 m1 xs1 :: row (.slice x.va m1 x.vc) 2 1 m1 xs2 :: row (.slice x.ca m3 x.cc) 95 1 m3 xs3 :: l) k) : Has (ndB x ps.length :: ndK x :: ndV x :: ndC x ps :: l) k := Has.nodeC e1 e3 h1 h2 h3 H
/-- Kids go over from a to b, with their places. -/
theorem Has.move2 {h : Nat} {ka kb : List (LK h)} {n : Nat} {m : List Assn} {k : Piece} (K : Has (sepL (ka.map (LK.a h)) :: sepL (kb.map (LK.a h)) :: m) k) : Has (sepL ((ka.take n).map (LK.a h)) :: sepL ((ka.drop n ++ kb).map (LK.a h)) :: m) k := by
  have K1 : Has (sepL ((ka.take n).map (LK.a h) ++ (ka.drop n).map (LK.a h)) :: sepL (kb.map (LK.a h)) :: m) k := by rw [← List.map_append, List.take_append_drop]; exact K
  have K2 := Has.sep_out K1
  refine Has.cons_imp (fun _ K => ?_) K2
  rw [List.map_append]
  exact Has.sep_in K
theorem Has.move3 {h : Nat} {ka kb : List (LK h)} {n : Nat} {m : List Assn} {k : Piece} (K : Has (sepL (ka.map (LK.a h)) :: sepL (kb.map (LK.a h)) :: m) k) : Has (sepL ((ka ++ kb.take n).map (LK.a h)) :: sepL ((kb.drop n).map (LK.a h)) :: m) k := by
  have K1 : Has (sepL (ka.map (LK.a h)) :: sepL ((kb.take n).map (LK.a h) ++ (kb.drop n).map (LK.a h)) :: m) k := by rw [← List.map_append, List.take_append_drop]; exact K
  have K2 := Has.cons_imp (fun _ K => Has.sep_out K) K1
  rw [List.map_append]
  exact Has.sep_in K2
/-- A node whose slices' blocks are known. -/
abbrev ndX (x : Nd) (bk bv bc : Nat) (ps : List Nat) (m : List Assn) : List Assn := blk x.p [.slice (some ⟨bk, 0, none⟩) x.kv.length x.kc, .slice (some ⟨bv, 0, none⟩) x.kv.length x.vc, .slice (some ⟨bc, 0, none⟩) ps.length x.cc] 98 :: row (.slice (some ⟨bk, 0, none⟩) x.kv.length x.kc) 9 1 x.kv.length (x.ks.map kT) :: row (.slice (some ⟨bv, 0, none⟩) x.kv.length x.vc) 2 1 x.kv.length (x.vs.map iV) :: row (.slice (some ⟨bc, 0, none⟩) ps.length x.cc) 95 1 ps.length (ps.map pV) :: m
theorem ndX_eq {x : Nd} {bk bv bc : Nat} (hka : x.ka = some ⟨bk, 0, none⟩) (hva : x.va = some ⟨bv, 0, none⟩) (hca : x.ca = some ⟨bc, 0, none⟩) (ps : List Nat) (m : List Assn) : ndB x ps.length :: ndK x :: ndV x :: ndC x ps :: m = ndX x bk bv bc ps m := by unfold ndX; rw [← hka, ← hva, ← hca]
theorem fl_end {g o r cnt h : Nat} {x : Nd} {M1 M2 : List (LT h)} {a b : LT h} {s e : KV} {av : List KV} {ka va ca p5 p6 p7 : Option Addr} {c5 c6 c7 m1 m2 : Nat} {bps : List Value} {F : List Assn} {k : Piece}
    (hka : x.ka = ka) (hva : x.va = va) (hca : x.ca = ca) (hi : x.kv[M1.length]? = some s) (ha : (LT.nd h a).kv = av ++ [e]) (hm1 : m1 = ((LT.ksL h a).take (LT.nd h a).kv.length).length) (hm2 : m2 = ((LT.ksL h a).drop (LT.nd h a).kv.length ++ LT.ksL h b).length) (hb : bps = (((LT.ksL h a).drop (LT.nd h a).kv.length ++ LT.ksL h b).map fun k => (LK.nd h k).p).map pV)
    (K : Has (blk x.p [.slice ka x.kv.length x.kc, .slice va x.kv.length x.vc, .slice ca ((M1 ++ a :: b :: M2).map fun k => (LT.nd h k).p).length x.cc] 98 :: row (.slice ka x.kv.length x.kc) 9 1 x.kv.length ((x.ks.map kT).set (0 + M1.length * 1) (kT e.1)) :: row (.slice va x.kv.length x.vc) 2 1 x.kv.length ((x.vs.map iV).set (0 + M1.length * 1) (iV e.2)) :: row (.slice ca ((M1 ++ a :: b :: M2).map fun k => (LT.nd h k).p).length x.cc) 95 1 ((M1 ++ a :: b :: M2).map fun k => (LT.nd h k).p).length (((M1 ++ a :: b :: M2).map fun k => (LT.nd h k).p).map pV) ::
      blk (LT.nd h a).p [.slice (LT.nd h a).ka av.length (LT.nd h a).kc, .slice (LT.nd h a).va av.length (LT.nd h a).vc, .slice (LT.nd h a).ca m1 (LT.nd h a).cc] 98 :: ndK (LT.nd h a) :: ndV (LT.nd h a) :: ndC (LT.nd h a) ((LT.ksL h a).map fun k => (LK.nd h k).p) ::
      blk (LT.nd h b).p [.slice p5 ((LT.nd h b).kv.length + 1) c5, .slice p6 ((LT.nd h b).kv.length + 1) c6, .slice p7 m2 c7] 98 :: row (.slice p5 ((LT.nd h b).kv.length + 1) c5) 9 1 ((LT.nd h b).kv.length + 1) (List.take 0 ((LT.nd h b).ks.map kT) ++ kT s.1 :: (LT.nd h b).ks.map kT) :: row (.slice p6 ((LT.nd h b).kv.length + 1) c6) 2 1 ((LT.nd h b).kv.length + 1) (List.take 0 ((LT.nd h b).vs.map iV) ++ iV s.2 :: (LT.nd h b).vs.map iV) :: row (.slice p7 m2 c7) 95 1 m2 bps ::
      sepL ((LT.ksL h a).map (LK.a h)) :: sepL ((LT.ksL h b).map (LK.a h)) :: sepL (M1.map (treeA h)) :: sepL (M2.map (treeA h)) :: trB g o r cnt :: F) k) :
    Has ([trB g o r cnt, treeA (h + 1) (LT.mk (h + 1) ⟨x.p, x.kv.set M1.length e, ka, x.kc, va, x.vc, ca, x.cc⟩ (M1 ++ LT.mk h ⟨(LT.nd h a).p, av, (LT.nd h a).ka, (LT.nd h a).kc, (LT.nd h a).va, (LT.nd h a).vc, (LT.nd h a).ca, (LT.nd h a).cc⟩ ((LT.ksL h a).take (LT.nd h a).kv.length) :: LT.mk h ⟨(LT.nd h b).p, s :: (LT.nd h b).kv, p5, c5, p6, c6, p7, c7⟩ ((LT.ksL h a).drop (LT.nd h a).kv.length ++ LT.ksL h b) :: M2))] ++ F) k := by
  subst hka; subst hva; subst hca
  simp only [Nat.zero_add, Nat.mul_one] at K
  have hl : (LT.nd h a).kv.length = av.length + 1 := by rw [ha]; simp
  have eP : (M1 ++ a :: b :: M2).map (fun k => (LT.nd h k).p) = M1.map (fun k => (LT.nd h k).p) ++ (LT.nd h a).p :: (LT.nd h b).p :: M2.map (fun k => (LT.nd h k).p) := by simp
  have K1 := Has.nodeCL (x := ⟨x.p, x.kv.set M1.length e, x.ka, x.kc, x.va, x.vc, x.ca, x.cc⟩) (ps := (M1 ++ a :: b :: M2).map fun k => (LT.nd h k).p) (by simp) rfl (by simp [List.map_set]) (by simp [List.map_set]) rfl K
  have K2 := Has.head K1 fun _ K => Has.head K fun _ K => Has.head K fun _ K => Has.head K fun _ K => Has.lft (y' := ⟨(LT.nd h a).p, av, (LT.nd h a).ka, (LT.nd h a).kc, (LT.nd h a).va, (LT.nd h a).vc, (LT.nd h a).ca, (LT.nd h a).cc⟩) (j := av.length) (by rw [ha, List.take_left' rfl]) (by omega) (by omega) (by rw [hm1, List.length_take, List.length_map]; omega) (by cases hq : LT.ksL h a with | nil => exact .inl rfl | cons => exact .inr (by simp)) K
  have K3 := Has.head K2 fun _ K => Has.head K fun _ K => Has.head K fun _ K => Has.head K fun _ K => Has.head K fun _ K => Has.head K fun _ K => Has.head K fun _ K => Has.head K fun _ K => Has.nodeCL (x := ⟨(LT.nd h b).p, s :: (LT.nd h b).kv, p5, c5, p6, c6, p7, c7⟩) (ps := ((LT.ksL h a).drop (LT.nd h a).kv.length ++ LT.ksL h b).map fun k => (LK.nd h k).p) (by simp) (by rw [hm2, List.length_map]) (by simp [insL]) (by simp [insL]) hb K
  have K4 := Has.head K3 fun _ K => Has.head K fun _ K => Has.head K fun _ K => Has.head K fun _ K => Has.head K fun _ K => Has.head K fun _ K => Has.head K fun _ K => Has.head K fun _ K => Has.head K fun _ K => Has.head K fun _ K => Has.head K fun _ K => Has.head K fun _ K => Has.move2 (n := (LT.nd h a).kv.length) K
  have e1 : ((LT.ksL h a).map fun k => (LK.nd h k).p).take m1 = ((LT.ksL h a).take (LT.nd h a).kv.length).map fun k => (LK.nd h k).p := by
    rw [hm1, List.length_take, ← List.map_take]
    refine congrArg _ (List.take_eq_take_iff.2 ?_)
    omega
  rw [e1, eP] at K4
  exact Has.swap (Has.close2 K4)
theorem fr_end {g o r cnt h : Nat} {x : Nd} {M1 M2 : List (LT h)} {a b : LT h} {s e : KV} {bv : List KV} {ka va ca p5 p6 p7 : Option Addr} {c5 c6 c7 m1 m2 : Nat} {aps bps : List Value} {F : List Assn} {k : Piece}
    (hka : x.ka = ka) (hva : x.va = va) (hca : x.ca = ca) (hi : x.kv[M1.length]? = some s) (hb : (LT.nd h b).kv = e :: bv) (hm1 : m1 = (LT.ksL h a ++ (LT.ksL h b).take 1).length) (hm2 : m2 = ((LT.ksL h b).drop 1).length) (ha : aps = ((LT.ksL h a ++ (LT.ksL h b).take 1).map fun k => (LK.nd h k).p).map pV) (hbp : bps = (((LT.ksL h b).drop 1).map fun k => (LK.nd h k).p).map pV)
    (K : Has (blk x.p [.slice ka x.kv.length x.kc, .slice va x.kv.length x.vc, .slice ca ((M1 ++ a :: b :: M2).map fun k => (LT.nd h k).p).length x.cc] 98 :: row (.slice ka x.kv.length x.kc) 9 1 x.kv.length ((x.ks.map kT).set (0 + M1.length * 1) (kT e.1)) :: row (.slice va x.kv.length x.vc) 2 1 x.kv.length ((x.vs.map iV).set (0 + M1.length * 1) (iV e.2)) :: row (.slice ca ((M1 ++ a :: b :: M2).map fun k => (LT.nd h k).p).length x.cc) 95 1 ((M1 ++ a :: b :: M2).map fun k => (LT.nd h k).p).length (((M1 ++ a :: b :: M2).map fun k => (LT.nd h k).p).map pV) ::
      blk (LT.nd h a).p [.slice p5 ((LT.nd h a).kv.length + 1) c5, .slice p6 ((LT.nd h a).kv.length + 1) c6, .slice p7 m1 c7] 98 :: row (.slice p5 ((LT.nd h a).kv.length + 1) c5) 9 1 ((LT.nd h a).kv.length + 1) ((LT.nd h a).ks.map kT ++ [kT s.1]) :: row (.slice p6 ((LT.nd h a).kv.length + 1) c6) 2 1 ((LT.nd h a).kv.length + 1) ((LT.nd h a).vs.map iV ++ [iV s.2]) :: row (.slice p7 m1 c7) 95 1 m1 aps ::
      blk (LT.nd h b).p [.slice (LT.nd h b).ka ((LT.nd h b).kv.length - 1) (LT.nd h b).kc, .slice (LT.nd h b).va ((LT.nd h b).kv.length - 1) (LT.nd h b).vc, .slice (LT.nd h b).ca m2 (LT.nd h b).cc] 98 :: row (.slice (LT.nd h b).ka ((LT.nd h b).kv.length - 1) (LT.nd h b).kc) 9 1 ((LT.nd h b).kv.length - 1) (((LT.nd h b).ks.map kT).eraseIdx 0) :: row (.slice (LT.nd h b).va ((LT.nd h b).kv.length - 1) (LT.nd h b).vc) 2 1 ((LT.nd h b).kv.length - 1) (((LT.nd h b).vs.map iV).eraseIdx 0) :: row (.slice (LT.nd h b).ca m2 (LT.nd h b).cc) 95 1 m2 bps ::
      sepL ((LT.ksL h a).map (LK.a h)) :: sepL ((LT.ksL h b).map (LK.a h)) :: sepL (M1.map (treeA h)) :: sepL (M2.map (treeA h)) :: trB g o r cnt :: F) k) :
    Has ([trB g o r cnt, treeA (h + 1) (LT.mk (h + 1) ⟨x.p, x.kv.set M1.length e, ka, x.kc, va, x.vc, ca, x.cc⟩ (M1 ++ LT.mk h ⟨(LT.nd h a).p, (LT.nd h a).kv ++ [s], p5, c5, p6, c6, p7, c7⟩ (LT.ksL h a ++ (LT.ksL h b).take 1) :: LT.mk h ⟨(LT.nd h b).p, bv, (LT.nd h b).ka, (LT.nd h b).kc, (LT.nd h b).va, (LT.nd h b).vc, (LT.nd h b).ca, (LT.nd h b).cc⟩ ((LT.ksL h b).drop 1) :: M2))] ++ F) k := by
  subst hka; subst hva; subst hca
  simp only [Nat.zero_add, Nat.mul_one] at K
  have hl : (LT.nd h b).kv.length = bv.length + 1 := by rw [hb]; simp
  have eP : (M1 ++ a :: b :: M2).map (fun k => (LT.nd h k).p) = M1.map (fun k => (LT.nd h k).p) ++ (LT.nd h a).p :: (LT.nd h b).p :: M2.map (fun k => (LT.nd h k).p) := by simp
  have K1 := Has.nodeCL (x := ⟨x.p, x.kv.set M1.length e, x.ka, x.kc, x.va, x.vc, x.ca, x.cc⟩) (ps := (M1 ++ a :: b :: M2).map fun k => (LT.nd h k).p) (by simp) rfl (by simp [List.map_set]) (by simp [List.map_set]) rfl K
  have K2 := Has.head K1 fun _ K => Has.head K fun _ K => Has.head K fun _ K => Has.head K fun _ K => Has.nodeCL (x := ⟨(LT.nd h a).p, (LT.nd h a).kv ++ [s], p5, c5, p6, c6, p7, c7⟩) (ps := (LT.ksL h a ++ (LT.ksL h b).take 1).map fun k => (LK.nd h k).p) (by simp) (by rw [hm1, List.length_map]) (by simp) (by simp) ha K
  have K3 := Has.head K2 fun _ K => Has.head K fun _ K => Has.head K fun _ K => Has.head K fun _ K => Has.head K fun _ K => Has.head K fun _ K => Has.head K fun _ K => Has.head K fun _ K => Has.nodeCL (x := ⟨(LT.nd h b).p, bv, (LT.nd h b).ka, (LT.nd h b).kc, (LT.nd h b).va, (LT.nd h b).vc, (LT.nd h b).ca, (LT.nd h b).cc⟩) (ps := ((LT.ksL h b).drop 1).map fun k => (LK.nd h k).p) (show (LT.nd h b).kv.length - 1 = bv.length by omega) (by rw [hm2, List.length_map]) (by rw [Nd.ks, hb]; simp) (by rw [Nd.vs, hb]; simp) hbp K
  have K4 := Has.head K3 fun _ K => Has.head K fun _ K => Has.head K fun _ K => Has.head K fun _ K => Has.head K fun _ K => Has.head K fun _ K => Has.head K fun _ K => Has.head K fun _ K => Has.head K fun _ K => Has.head K fun _ K => Has.head K fun _ K => Has.head K fun _ K => Has.move3 (n := 1) K
  rw [eP] at K4
  exact Has.swap (Has.close2 K4)
end Go.Proofs.Ytefognjcognknaa
