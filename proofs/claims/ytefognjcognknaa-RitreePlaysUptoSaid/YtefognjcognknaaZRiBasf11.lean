/- The texts BtR BtS BtT BtU BtV BtW, one behind the other: what the law leans on. Conditions: as each theorem says. -/
import Derived.Test.YtefognjcognknaaZRiBasf10
/- btree: what cut comes to. Conditions: none. -/
set_option linter.unusedSimpArgs false
set_option linter.unusedVariables false
namespace Go.Proofs.Ytefognjcognknaa
open Go.RowKit
def ptrZ (P : Program) (t : TypeId) : Bool := match P.underlying t with
  | some (.pointer e) => (szOf P e).isSome
  | _ => false
section
variable {P : Program} {B : Base} {n : Nat} {S l : List Assn} {f : Fr}
variable {d : Option Tmp} {ty : TypeId} {pos : String} {af : Array Edge} {gd : Option (Nat × Bool)}
theorem Qt.neqSame {t t2 : TypeId} {x y : Operand} {a : Addr} (ht : ptrZ P t = true) (hx : ev n f x = some (.pointer (some a))) (hy : ev n f y = some (.pointer (some a))) : Qt P B n S ⟨d, .binOp .neq t x y t2, ty, pos, af, gd⟩ f (.bool false) := ⟨fun w _ => by
  unfold ptrZ at ht
  split at ht
  · rename_i e hu
    obtain ⟨k, hk⟩ := Option.isSome_iff_exists.1 ht
    obtain ⟨i, hi, his⟩ := info_of_size hk
    have h1 : (Op.equal t (.pointer (some a)) (.pointer (some a))).run P w = .ok true w := by
      show (Op.equalIn (9999 + 1) t (.pointer (some a)) (.pointer (some a))).run P w = _
      rw [Op.equalIn]
      simp [run_underlying hu, sizeOf, typeInfo, hi, sameAddr]
    have he : (Go.binOp .neq t (.pointer (some a)) (.pointer (some a))).run P w = .ok (.bool false) w := by simp [Go.binOp, h1]
    simp [execOp, evu_eq hx, evu_eq hy, eqGuard, he]
  · cases ht⟩
end
/-- A key's place, where the list has it. -/
theorem spot_has {x : Nd} {key : Str} {v : Int} (hu : Up x.kv) (h : (key, v) ∈ x.kv) : x.kv[spot x.ks key]? = some (key, v) := by
  obtain ⟨a, b, e⟩ := List.append_of_mem h
  obtain ⟨h1, h2⟩ := hu.at e
  have hs : spot x.ks key = a.length := by
    refine spot_eq (by rw [Nd.ks, List.length_map, e]; simp) (fun k s hk hs => ?_) (fun s hs => ?_)
    · rw [keyAt, e, List.getElem?_append_left hk] at hs
      obtain ⟨y, hy, rfl⟩ := Option.map_eq_some_iff.1 hs
      exact h1 y (List.mem_of_getElem? hy)
    · rw [keyAt, e, List.getElem?_append_right (Nat.le_refl _)] at hs
      simp at hs
      rw [← hs]; exact sl_irrefl key
  rw [hs, e, List.getElem?_append_right (Nat.le_refl _)]
  simp
theorem erase_at {l : List KV} {i : Nat} {p : KV} (hi : l[i]? = some p) (hu : Up l) : cutL p.1 l = l.eraseIdx i := by
  have e := cut_at hi
  rw [List.eraseIdx_eq_take_drop_succ]
  conv => lhs; rw [e]
  rw [e] at hu
  exact cutL_at hu
/-- A tree around one of its kids, as a list. -/
theorem toL_mid {h : Nat} {x : Nd} {L1 L2 : List (LT h)} {q : LT h} (hl : L1.length + L2.length = x.kv.length) : toL (h + 1) (LT.mk (h + 1) x (L1 ++ q :: L2)) = lefts (L1.map (toL h)) (x.kv.take L1.length) ++ (toL h q ++ rights (x.kv.drop L1.length) (L2.map (toL h))) := by
  show inter ((L1 ++ q :: L2).map (toL h)) x.kv = _
  rw [List.map_append, List.map_cons, inter_split _ _ _ _ (by rw [List.length_map]; omega) (by rw [List.length_map, List.length_map]; omega), List.length_map]
theorem cutL_mid {l r q : List KV} {key : Str} {v : Int} (hu : Up (l ++ (q ++ r))) (hm : (key, v) ∈ q) : cutL key (l ++ (q ++ r)) = l ++ (cutL key q ++ r) := by
  have h1 := List.pairwise_append.1 hu
  have h2 := List.pairwise_append.1 h1.2.1
  rw [cutL_append, cutL_append, cutL_none (fun y hy => ne_of_sl (h1.2.2 y hy _ (List.mem_append_left _ hm))), cutL_none (a := r) (fun y hy => (ne_of_sl (h2.2.2 _ hm y hy)).symm)]
theorem up_mid {l r q : List KV} (hu : Up (l ++ (q ++ r))) : Up q := (List.pairwise_append.1 (List.pairwise_append.1 hu).2.1).1
/-- Down by one kid, in which the key is. -/
theorem cut_down {H h : Nat} {c : Cx H (h + 1)} {x : Nd} {L1 L2 : List (LT h)} {q : LT h} {key : Str} {v : Int} {G : List KV} (hl : L1.length + L2.length = x.kv.length) (hu : Up (toL (h + 1) (LT.mk (h + 1) x (L1 ++ q :: L2)))) (hm : (key, v) ∈ toL h q) (hG : c.lf ++ cutL key (toL (h + 1) (LT.mk (h + 1) x (L1 ++ q :: L2))) ++ c.rg = G) :
    (Cx.down c x L1 L2).lf ++ cutL key (toL h q) ++ (Cx.down c x L1 L2).rg = G := by
  rw [toL_mid hl] at hu hG
  rw [cutL_mid hu hm] at hG
  rw [← hG]
  show (c.lf ++ lefts (L1.map (toL h)) (x.kv.take L1.length)) ++ cutL key (toL h q) ++ (rights (x.kv.drop L1.length) (L2.map (toL h)) ++ c.rg) = _
  simp
/-- A key that is not in this node is in the kid for it. -/
theorem cut_kid {h : Nat} {x : Nd} {ks : List (LT h)} {key : Str} {v : Int} (hu : Up (toL (h + 1) (LT.mk (h + 1) x ks))) (hl : ks.length = x.kv.length + 1) (hn : x.ks[spot x.ks key]? ≠ some key) (hm : (key, v) ∈ toL (h + 1) (LT.mk (h + 1) x ks)) : ∃ L1 k L2, ks = L1 ++ k :: L2 ∧ L1.length = spot x.ks key ∧ L1.length + L2.length = x.kv.length ∧ (key, v) ∈ toL h k := by
  obtain ⟨L1, k, L2, rfl, e1, e2, e3, e4⟩ := kid_spot (x := x) key hu hl hn
  refine ⟨L1, k, L2, rfl, e1, e2, ?_⟩
  rw [toL_mid e2] at hm
  rcases List.mem_append.1 hm with h1 | h1
  · have := e3 _ h1
    rw [sl_irrefl] at this; cases this
  · rcases List.mem_append.1 h1 with h1 | h1
    · exact h1
    · have := e4 _ h1
      rw [sl_irrefl] at this; cases this
theorem cut_ok {H o h : Nat} {c : Cx H (h + 1)} {x : Nd} {L1 L2 : List (LT h)} {q : LT h} (hk : okN o (c.lo o 0) (h + 1) (LT.mk (h + 1) x (L1 ++ q :: L2))) (hc : c.ok o 0) : (Cx.down c x L1 L2).ok o 0 := by
  have a := okK.1 hk
  have hlen := a.2.2.1
  exact ⟨a.1, a.2.1, by simp at hlen; omega, fun k hk => a.2.2.2 k (List.mem_append_left _ hk), fun k hk => a.2.2.2 k (List.mem_append_right _ (List.mem_cons_of_mem _ hk)), hc⟩
/-- The key goes up from the last place of the kid before it. -/
theorem cut_pred {H h : Nat} {c : Cx H (h + 1)} {x x' : Nd} {L1 L2 : List (LT h)} {q : LT h} {p e : KV} {av : List KV} {G : List KV} (hl : L1.length + L2.length = x.kv.length) (hi : x.kv[L1.length]? = some p) (hx : x'.kv = x.kv.set L1.length e) (hq : toL h q = av ++ [e]) (hu : Up (toL (h + 1) (LT.mk (h + 1) x (L1 ++ q :: L2)))) (hG : c.lf ++ cutL p.1 (toL (h + 1) (LT.mk (h + 1) x (L1 ++ q :: L2))) ++ c.rg = G) :
    (Cx.down c x' L1 L2).lf ++ cutL e.1 (toL h q) ++ (Cx.down c x' L1 L2).rg = G := by
  have hil := (List.getElem?_eq_some_iff.1 hi).1
  rw [toL_mid hl] at hu hG
  have hd : x.kv.drop L1.length = p :: x.kv.drop (L1.length + 1) := by rw [List.drop_eq_getElem_cons hil, (List.getElem?_eq_some_iff.1 hi).2]
  obtain ⟨r1, R2, hL2⟩ : ∃ r1 R2, L2.map (toL h) = r1 :: R2 := by
    cases L2 with
    | nil => simp at hl; omega
    | cons a b => exact ⟨_, _, rfl⟩
  have e1 : x'.kv.take L1.length = x.kv.take L1.length := by rw [hx, List.take_set_of_le (Nat.le_refl _)]
  have e2 : x'.kv.drop L1.length = e :: x.kv.drop (L1.length + 1) := by
    rw [hx, set_at hi, List.drop_left' (by simp; omega)]
  have ecut : cutL e.1 (toL h q) = av := by
    have hq2 := up_mid hu
    rw [hq] at hq2 ⊢
    rw [cutL_at hq2, List.append_nil]
  rw [hd, hL2, rights] at hu hG
  have h0 : lefts (L1.map (toL h)) (x.kv.take L1.length) ++ (toL h q ++ p :: (r1 ++ rights (x.kv.drop (L1.length + 1)) R2)) = (lefts (L1.map (toL h)) (x.kv.take L1.length) ++ toL h q) ++ p :: (r1 ++ rights (x.kv.drop (L1.length + 1)) R2) := by simp
  rw [h0] at hu hG
  rw [cutL_at hu] at hG
  show (c.lf ++ lefts (L1.map (toL h)) (x'.kv.take L1.length)) ++ cutL e.1 (toL h q) ++ (rights (x'.kv.drop L1.length) (L2.map (toL h)) ++ c.rg) = G
  rw [e1, e2, hL2, rights, ecut, ← hG, hq]
  simp
/-- The key goes up from the first place of the kid behind it. -/
theorem cut_succ {H h : Nat} {c : Cx H (h + 1)} {x x' : Nd} {L1 L2 : List (LT h)} {a q : LT h} {p e : KV} {av : List KV} {G : List KV} (hl : L1.length + 1 + L2.length = x.kv.length) (hi : x.kv[L1.length]? = some p) (hx : x'.kv = x.kv.set L1.length e) (hq : toL h q = e :: av) (hu : Up (toL (h + 1) (LT.mk (h + 1) x (L1 ++ a :: q :: L2)))) (hG : c.lf ++ cutL p.1 (toL (h + 1) (LT.mk (h + 1) x (L1 ++ a :: q :: L2))) ++ c.rg = G) :
    (Cx.down c x' (L1 ++ [a]) L2).lf ++ cutL e.1 (toL h q) ++ (Cx.down c x' (L1 ++ [a]) L2).rg = G := by
  have hil := (List.getElem?_eq_some_iff.1 hi).1
  rw [toL_mid (L2 := q :: L2) (by simp; omega)] at hu hG
  have hd : x.kv.drop L1.length = p :: x.kv.drop (L1.length + 1) := by rw [List.drop_eq_getElem_cons hil, (List.getElem?_eq_some_iff.1 hi).2]
  have e2 : x'.kv.drop (L1.length + 1) = x.kv.drop (L1.length + 1) := by
    rw [hx, set_at hi]
    have : x.kv.take L1.length ++ e :: x.kv.drop (L1.length + 1) = (x.kv.take L1.length ++ [e]) ++ x.kv.drop (L1.length + 1) := by simp
    rw [this, List.drop_left' (by simp; omega)]
  have e1 : x'.kv.take (L1.length + 1) = x.kv.take L1.length ++ [e] := by
    rw [hx, set_at hi]
    have : x.kv.take L1.length ++ e :: x.kv.drop (L1.length + 1) = (x.kv.take L1.length ++ [e]) ++ x.kv.drop (L1.length + 1) := by simp
    rw [this, List.take_left' (by simp; omega)]
  have hlf : ∀ (A : List (List KV)) (vs : List KV) (b : List KV) (y : KV), A.length = vs.length → lefts (A ++ [b]) (vs ++ [y]) = lefts A vs ++ (b ++ [y]) := by
    intro A
    induction A with
    | nil => intro vs b y hv; cases vs with
      | nil => simp [lefts]
      | cons v vs => simp at hv
    | cons a A ih => intro vs b y hv; cases vs with
      | nil => simp at hv
      | cons v vs =>
        have := ih vs b y (by simpa using hv)
        rw [List.cons_append, List.cons_append, lefts, this, lefts]; simp
  have hqu : Up (toL h q) := by
    rw [hd, List.map_cons, rights] at hu
    have h2 := (List.pairwise_append.1 (List.pairwise_append.1 hu).2.1).2.1
    exact (List.pairwise_append.1 (List.pairwise_cons.1 h2).2).1
  have ecut : cutL e.1 (toL h q) = av := by
    rw [hq] at hqu ⊢
    exact cutL_at (a := []) hqu
  rw [hd, List.map_cons, rights] at hu hG
  have h0 : lefts (L1.map (toL h)) (x.kv.take L1.length) ++ (toL h a ++ p :: (toL h q ++ rights (x.kv.drop (L1.length + 1)) (L2.map (toL h)))) = (lefts (L1.map (toL h)) (x.kv.take L1.length) ++ toL h a) ++ p :: (toL h q ++ rights (x.kv.drop (L1.length + 1)) (L2.map (toL h))) := by simp
  rw [h0] at hu hG
  rw [cutL_at hu] at hG
  show (c.lf ++ lefts ((L1 ++ [a]).map (toL h)) (x'.kv.take (L1 ++ [a]).length)) ++ cutL e.1 (toL h q) ++ (rights (x'.kv.drop (L1 ++ [a]).length) (L2.map (toL h)) ++ c.rg) = G
  rw [List.length_append, List.length_singleton, e1, e2, List.map_append, List.map_cons, List.map_nil, hlf _ _ _ _ (by rw [List.length_map, List.length_take]; omega), ecut, ← hG, hq]
  simp
end Go.Proofs.Ytefognjcognknaa

/- btree: fill for any node; cut's steps. Conditions: sizes. -/
set_option linter.unusedSimpArgs false
set_option linter.unusedVariables false
namespace Go.Proofs.Ytefognjcognknaa
open Go.RowKit
theorem Has.row_some {p : Option Addr} {m c e : Nat} {xs : List Value} {l : List Assn} {k : Piece} (H : Has (row (.slice p m c) e 1 m xs :: l) k) (h0 : 0 < m) : ∃ g, p = some ⟨g, 0, none⟩ := by
  obtain ⟨_, _, _, _, _, ⟨_, h⟩, _⟩ := H
  rcases h with ⟨h, h1⟩ | ⟨g, cap, cur, e1, _⟩
  · omega
  · injection e1 with e1 _ _
    exact ⟨g, e1⟩
/-- A node's slices' blocks. -/
theorem Has.blocks {h : Nat} {x : Nd} {ks : List (LK h)} {m : List Assn} {k : Piece} (K : Has (treeA h (LT.mk h x ks) :: m) k) (h1 : 0 < x.kv.length) (h2 : 0 < ks.length) : ∃ bk bv bc, x.ka = some ⟨bk, 0, none⟩ ∧ x.va = some ⟨bv, 0, none⟩ ∧ x.ca = some ⟨bc, 0, none⟩ := by
  have K1 := (Has.openM K).tail
  obtain ⟨bk, e1⟩ := Has.row_some K1 h1
  obtain ⟨bv, e2⟩ := Has.row_some K1.tail h1
  obtain ⟨bc, e3⟩ := Has.row_some K1.tail.tail (by simpa using h2)
  exact ⟨bk, bv, bc, e1, e2, e3⟩
theorem Bt.fill (B : Base) (g o r cnt h : Nat) (x : Nd) (L1 L2 : List (LT h)) (q : LT h) (ho : 2 ≤ o) (ho2 : o ≤ 64) (hok : okN o 1 (h + 1) (LT.mk (h + 1) x (L1 ++ q :: L2))) :
    Fn Try.prog B 79 #[pV g, pV x.p, .int .i64 L1.length] [trB g o r cnt, treeA (h + 1) (LT.mk (h + 1) x (L1 ++ q :: L2))] (fillR g o r cnt h x L1 q L2) := by
  refine Fn.exPre (pre' := fun (_ : {p : Nat × Nat × Nat // x.ka = some ⟨p.1, 0, none⟩ ∧ x.va = some ⟨p.2.1, 0, none⟩ ∧ x.ca = some ⟨p.2.2, 0, none⟩}) => [trB g o r cnt, treeA (h + 1) (LT.mk (h + 1) x (L1 ++ q :: L2))]) (fun k K => ?_) fun p => Bt.fill0 B g o r cnt h _ _ _ x L1 L2 q ho ho2 p.2.1 p.2.2.1 p.2.2.2 hok
  have hk := okK.1 hok
  obtain ⟨bk, bv, bc, e1, e2, e3⟩ := Has.blocks (h := h + 1) (ks := L1 ++ q :: L2) (Has.swap K) hk.2.1 (by show 0 < (L1 ++ q :: L2).length; simp; omega)
  exact ⟨⟨(bk, bv, bc), e1, e2, e3⟩, K⟩
theorem merge_ok {o lo h : Nat} {x x' : Nd} {M1 M2 : List (LT h)} {a b c : LT h} (hok : okN o (lo + 1) (h + 1) (LT.mk (h + 1) x (M1 ++ a :: b :: M2))) (hx : x'.kv = x.kv.eraseIdx M1.length) (hc : okT o h false c) : okN o lo (h + 1) (LT.mk (h + 1) x' (M1 ++ c :: M2)) := by
  have hk := okK.1 hok
  have hlen := hk.2.2.1
  have hl : M1.length < x.kv.length := by simp at hlen; omega
  have hxl : x'.kv.length = x.kv.length - 1 := by rw [hx, List.length_eraseIdx_of_lt hl]
  have h1 := hk.1
  have h2 := hk.2.1
  refine okK.2 ⟨by omega, by omega, ?_, fun k hm => ?_⟩
  · simp at hlen ⊢; omega
  · rcases List.mem_append.1 hm with hm | hm
    · exact hk.2.2.2 k (by simp [hm])
    · rcases List.mem_cons.1 hm with rfl | hm
      · exact hc
      · exact hk.2.2.2 k (by simp [hm])
theorem set_ok {o lo h : Nat} {x x' : Nd} {ks : List (LT h)} (hok : okN o lo (h + 1) (LT.mk (h + 1) x ks)) (hx : x'.kv.length = x.kv.length) : okN o lo (h + 1) (LT.mk (h + 1) x' ks) := by
  have hk := okK.1 hok
  exact okK.2 ⟨by rw [hx]; exact hk.1, by rw [hx]; exact hk.2.1, by rw [hx]; exact hk.2.2.1, hk.2.2.2⟩
theorem cut_leaf {H o g r cnt m1 : Nat} {c : Cx H 0} {y : Nd} {js : List (LK 0)} {key : Str} {v : Int} {G : List KV} {F : List Assn} {k : Piece} (hc : c.ok o 0) (hk : okN o (c.lo o 0 + 1) 0 (LT.mk 0 y js)) (hu : Up y.kv) (hm : (key, v) ∈ y.kv) (hG : c.lf ++ cutL key (toL 0 (LT.mk 0 y js)) ++ c.rg = G) :
    okN o 0 H (c.plug (LT.mk 0 ⟨y.p, y.kv.eraseIdx (spot y.ks key), y.ka, y.kc, y.va, y.vc, y.ca, y.cc⟩ js)) ∧ toL H (c.plug (LT.mk 0 ⟨y.p, y.kv.eraseIdx (spot y.ks key), y.ka, y.kc, y.va, y.vc, y.ca, y.cc⟩ js)) = G := by
  have hk' := okN_mk.1 hk
  have hs := spot_has hu hm
  have hlt := (List.getElem?_eq_some_iff.1 hs).1
  have hel := List.length_eraseIdx_of_lt hlt
  refine ⟨Cx.ok_plug hc (okN_mk.2 ⟨?_, ?_, .inl rfl, hk'.2.2.2⟩), ?_⟩
  · show (y.kv.eraseIdx _).length ≤ _; omega
  · show _ ≤ (y.kv.eraseIdx _).length; omega
  · rw [Cx.toL_plug hc, ← hG]
    have e : toL 0 (LT.mk 0 (⟨y.p, y.kv.eraseIdx (spot y.ks key), y.ka, y.kc, y.va, y.vc, y.ca, y.cc⟩ : Nd) js) = cutL key (toL 0 (LT.mk 0 y js)) := (erase_at hs hu).symm
    rw [e]
theorem cut_leaf_has {H o g r cnt : Nat} {c : Cx H 0} {y : Nd} {js : List (LK 0)} {i : Nat} {F : List Assn} {k : Piece} (hi : i < y.kv.length)
    (K : Has (blk y.p [.slice y.ka (y.kv.length - 1) y.kc, .slice y.va (y.kv.length - 1) y.vc, .slice y.ca (js.map fun q => (LK.nd 0 q).p).length y.cc] 98 :: row (.slice y.ka (y.kv.length - 1) y.kc) 9 1 (y.kv.length - 1) ((y.ks.map kT).eraseIdx i) :: row (.slice y.va (y.kv.length - 1) y.vc) 2 1 (y.kv.length - 1) ((y.vs.map iV).eraseIdx i) :: ndC y (js.map fun q => (LK.nd 0 q).p) :: sepL (js.map (LK.a 0)) :: cxA c y.p :: trB g o r cnt :: F) k) : Has ([trB g o r cnt, treeA H (c.plug (LT.mk 0 ⟨y.p, y.kv.eraseIdx i, y.ka, y.kc, y.va, y.vc, y.ca, y.cc⟩ js))] ++ F) k := by
  have e1 : (y.kv.eraseIdx i).length = y.kv.length - 1 := List.length_eraseIdx_of_lt hi
  have K1 := Has.nodeC (x := ⟨y.p, y.kv.eraseIdx i, y.ka, y.kc, y.va, y.vc, y.ca, y.cc⟩) (ps := js.map fun q => (LK.nd 0 q).p) e1.symm rfl (by rw [← erase_map, ← erase_map]) (by rw [← erase_map, ← erase_map]) rfl K
  exact Has.swap (Has.closeP K1)
/-- The last pair of a tree, at the end of the path to the right. -/
theorem cut_last {h o : Nat} {q : LT h} {c2 : Cx h 0} {z : Nd} {zs : List (LK 0)} {zv : List KV} {e : KV} (hp : c2.plug (LT.mk 0 z zs) = q) (hc : c2.ok o (o - 1)) (hr : c2.rg = []) (hz : z.kv = zv ++ [e]) : toL h q = (c2.lf ++ zv) ++ [e] := by
  rw [← hp, Cx.toL_plug hc, hr]
  show c2.lf ++ z.kv ++ [] = _
  rw [hz]; simp
theorem cut_first {h o : Nat} {q : LT h} {c2 : Cx h 0} {z : Nd} {zs : List (LK 0)} {zv : List KV} {e : KV} (hp : c2.plug (LT.mk 0 z zs) = q) (hc : c2.ok o (o - 1)) (hr : c2.lf = []) (hz : z.kv = e :: zv) : toL h q = e :: (zv ++ c2.rg) := by
  rw [← hp, Cx.toL_plug hc, hr]
  show [] ++ z.kv ++ c2.rg = _
  rw [hz]; simp
/-- Down by the last kid. -/
theorem last_down {H h o : Nat} {c : Cx H (h + 1)} {z : Nd} {Zs : List (LT h)} {lz : LT h} (hk : okN o (o - 1) (h + 1) (LT.mk (h + 1) z (Zs ++ lz :: []))) (hc : c.ok o (o - 1)) (hr : c.rg = []) : (Cx.down c z Zs []).ok o (o - 1) ∧ (Cx.down c z Zs []).rg = [] ∧ okN o (o - 1) h (LT.mk h (LT.nd h lz) (LT.ksL h lz)) := by
  have a := okK.1 hk
  have hl := a.2.2.1
  have hl2 : Zs.length = z.kv.length := by simp at hl; omega
  have hlo : c.lo o (o - 1) = o - 1 := by cases c <;> rfl
  refine ⟨⟨a.1, by rw [hlo]; exact a.2.1, by simpa using hl2, fun k hk => a.2.2.2 k (List.mem_append_left _ hk), (fun k hk => nomatch hk), hc⟩, ?_, by rw [LT.eta]; exact okN_false.1 (a.2.2.2 lz (by simp))⟩
  show rights (z.kv.drop Zs.length) [] ++ c.rg = []
  rw [hr, List.drop_of_length_le (by omega)]; rfl
theorem first_down {H h o : Nat} {c : Cx H (h + 1)} {z : Nd} {Zs : List (LT h)} {lz : LT h} (hk : okN o (o - 1) (h + 1) (LT.mk (h + 1) z (lz :: Zs))) (hc : c.ok o (o - 1)) (hr : c.lf = []) : (Cx.down c z [] Zs).ok o (o - 1) ∧ (Cx.down c z [] Zs).lf = [] ∧ okN o (o - 1) h (LT.mk h (LT.nd h lz) (LT.ksL h lz)) := by
  have a := okK (ks := lz :: Zs) |>.1 hk
  have hl := a.2.2.1
  have hl2 : Zs.length = z.kv.length := by simpa using hl
  have hlo : c.lo o (o - 1) = o - 1 := by cases c <;> rfl
  refine ⟨⟨a.1, by rw [hlo]; exact a.2.1, by simpa using hl2, (fun k hk => nomatch hk), fun k hk => a.2.2.2 k (List.mem_cons_of_mem _ hk), hc⟩, ?_, by rw [LT.eta]; exact okN_false.1 (a.2.2.2 lz (List.mem_cons_self ..))⟩
  show c.lf ++ lefts [] _ = []
  rw [hr]; rfl
/-- Behind a change of a node's pair: down by one of its kids, put together again. -/
theorem cut_set_has {H h h2 o g r cnt bk bv bc i : Nat} {c : Cx H (h + 1)} {y : Nd} {L1 L2 : List (LT h)} {q : LT h} {c2 : Cx h h2} {z : Nd} {zs : List (LK h2)} {e p : KV} {F : List Assn} {k : Piece} (hka : y.ka = some ⟨bk, 0, none⟩) (hva : y.va = some ⟨bv, 0, none⟩) (hca : y.ca = some ⟨bc, 0, none⟩) (hp : c2.plug (LT.mk h2 z zs) = q)
    (K : Has (nodeL z (zs.map fun q => (LK.nd h2 q).p) ++ sepL (zs.map (LK.a h2)) :: cxA c2 z.p :: blk y.p [.slice (some ⟨bk, 0, none⟩) y.kv.length y.kc, .slice (some ⟨bv, 0, none⟩) y.kv.length y.vc, .slice (some ⟨bc, 0, none⟩) ((L1 ++ q :: L2).map fun k => (LT.nd h k).p).length y.cc] 98 :: row (.slice (some ⟨bk, 0, none⟩) y.kv.length y.kc) 9 1 y.kv.length ((y.ks.map kT).set (0 + i * 1) (kT e.1)) :: row (.slice (some ⟨bv, 0, none⟩) y.kv.length y.vc) 2 1 y.kv.length ((y.vs.map iV).set (0 + i * 1) (iV e.2)) :: row (.slice (some ⟨bc, 0, none⟩) ((L1 ++ q :: L2).map fun k => (LT.nd h k).p).length y.cc) 95 1 ((L1 ++ q :: L2).map fun k => (LT.nd h k).p).length (((L1 ++ q :: L2).map fun k => (LT.nd h k).p).map pV) :: sepL (L1.map (treeA h)) :: sepL (L2.map (treeA h)) :: cxA c y.p :: trB g o r cnt :: F) k) :
    Has (openA h (LT.nd h q) (LT.ksL h q) ++ cxA (.down c ⟨y.p, y.kv.set i e, some ⟨bk, 0, none⟩, y.kc, some ⟨bv, 0, none⟩, y.vc, some ⟨bc, 0, none⟩, y.cc⟩ L1 L2) (LT.nd h q).p :: trB g o r cnt :: F) k := by
  simp only [Nat.zero_add, Nat.mul_one] at K
  have K1 := Has.closeP K
  rw [hp, ← LT.eta h q] at K1
  have K2 := Has.openM K1
  rw [LT.eta h q] at K2
  refine Has.downP (x := ⟨y.p, y.kv.set i e, some ⟨bk, 0, none⟩, y.kc, some ⟨bv, 0, none⟩, y.vc, some ⟨bc, 0, none⟩, y.cc⟩) (m := trB g o r cnt :: F) ?_
  have K3 : Has (blk y.p [.slice (some ⟨bk, 0, none⟩) y.kv.length y.kc, .slice (some ⟨bv, 0, none⟩) y.kv.length y.vc, .slice (some ⟨bc, 0, none⟩) ((L1 ++ q :: L2).map fun k => (LT.nd h k).p).length y.cc] 98 :: row (.slice (some ⟨bk, 0, none⟩) y.kv.length y.kc) 9 1 y.kv.length ((y.ks.map kT).set i (kT e.1)) :: row (.slice (some ⟨bv, 0, none⟩) y.kv.length y.vc) 2 1 y.kv.length ((y.vs.map iV).set i (iV e.2)) :: row (.slice (some ⟨bc, 0, none⟩) ((L1 ++ q :: L2).map fun k => (LT.nd h k).p).length y.cc) 95 1 ((L1 ++ q :: L2).map fun k => (LT.nd h k).p).length (((L1 ++ q :: L2).map fun k => (LT.nd h k).p).map pV) :: (nodeL (LT.nd h q) ((LT.ksL h q).map fun q => (LK.nd h q).p) ++ sepL ((LT.ksL h q).map (LK.a h)) :: sepL (L1.map (treeA h)) :: sepL (L2.map (treeA h)) :: cxA c y.p :: trB g o r cnt :: F)) k := by
    simp only [nodeL, List.cons_append, List.nil_append] at K2 ⊢
    exact Sub.any k K2
  have K4 := Has.nodeC (x := ⟨y.p, y.kv.set i e, some ⟨bk, 0, none⟩, y.kc, some ⟨bv, 0, none⟩, y.vc, some ⟨bc, 0, none⟩, y.cc⟩) (ps := (L1 ++ q :: L2).map fun k => (LT.nd h k).p) (by simp) rfl (by simp [List.map_set]) (by simp [List.map_set]) rfl K3
  rw [List.append_assoc]
  exact K4
end Go.Proofs.Ytefognjcognknaa

/- btree: cut. Conditions: sizes; that the tree has the key. -/
set_option linter.unusedSimpArgs false
set_option linter.unusedVariables false
namespace Go.Proofs.Ytefognjcognknaa
open Go.RowKit
theorem cut_fold {h : Nat} {y : Nd} {js : List (LK h)} {A : Assn} {F : List Assn} {T1 : Assn} {k : Piece} (K : Has (ndB y (js.map fun q => (LK.nd h q).p).length :: ndK y :: ndV y :: ndC y (js.map fun q => (LK.nd h q).p) :: sepL (js.map (LK.a h)) :: A :: T1 :: F) k) : Has (T1 :: treeA h (LT.mk h y js) :: A :: F) k := by
  have K1 : Has (treeA h (LT.mk h y js) :: A :: T1 :: F) k := Has.closeM K
  exact Sub.any k K1
theorem cut_open2 {h bk bv bc : Nat} {y : Nd} {L1 L2 : List (LT h)} {a b : LT h} {m : List Assn} {k : Piece} (hka : y.ka = some ⟨bk, 0, none⟩) (hva : y.va = some ⟨bv, 0, none⟩) (hca : y.ca = some ⟨bc, 0, none⟩) (K : Has (ndB y ((L1 ++ a :: b :: L2).map fun q => (LK.nd (h + 1) q).p).length :: ndK y :: ndV y :: ndC y ((L1 ++ a :: b :: L2).map fun q => (LK.nd (h + 1) q).p) :: sepL ((L1 ++ a :: b :: L2).map (LK.a (h + 1))) :: m) k) : Has (opx2 h y bk bv bc L1 a b L2 m) k := Has.openx2 hka hva hca (Has.closeM (h := h + 1) K)
theorem cut_two {h : Nat} {y : Nd} {ks : List (LT h)} {i : Nat} (hl : ks.length = y.kv.length + 1) (hi : i < y.kv.length) : ∃ L1 q rq M2, ks = L1 ++ q :: rq :: M2 ∧ L1.length = i ∧ L1.length + 1 + M2.length = y.kv.length := by
  refine ⟨ks.take i, ks[i], ks[i + 1], ks.drop (i + 2), ?_, by simp; omega, by simp; omega⟩
  rw [List.getElem_cons_drop, List.getElem_cons_drop, List.take_append_drop]
/-- One of two open neighbours closed again. -/
theorem cut_one {h bk bv bc : Nat} {y : Nd} {L1 M2 : List (LT h)} {q rq : LT h} {m : List Assn} {k : Piece} (hka : y.ka = some ⟨bk, 0, none⟩) (hva : y.va = some ⟨bv, 0, none⟩) (hca : y.ca = some ⟨bc, 0, none⟩) (K : Has (opx2 h y bk bv bc L1 q rq M2 m) k) : Has (openA h (LT.nd h q) (LT.ksL h q) ++ cxA (Cx.top : Cx h h) (LT.nd h q).p :: ndX y bk bv bc ((L1 ++ q :: rq :: M2).map fun k => (LT.nd h k).p) (sepL (L1.map (treeA h)) :: sepL ((rq :: M2).map (treeA h)) :: m)) k := by
  have K1 := Has.openx1 (L2 := rq :: M2) hka hva hca (Has.shutx2 hka hva hca K)
  have K2 : Has (cxA (Cx.top : Cx h h) (LT.nd h q).p :: opx1 h y bk bv bc L1 q (rq :: M2) m) k := Has.close_pu (p := True) trivial K1
  simp only [openA, opx1, ndX, List.cons_append, List.nil_append] at K2 ⊢
  exact Sub.any k K2
theorem cut_oneR {h bk bv bc : Nat} {y : Nd} {L1 M2 : List (LT h)} {q rq : LT h} {m : List Assn} {k : Piece} (hka : y.ka = some ⟨bk, 0, none⟩) (hva : y.va = some ⟨bv, 0, none⟩) (hca : y.ca = some ⟨bc, 0, none⟩) (K : Has (opx2 h y bk bv bc L1 q rq M2 m) k) : Has (openA h (LT.nd h rq) (LT.ksL h rq) ++ cxA (Cx.top : Cx h h) (LT.nd h rq).p :: ndX y bk bv bc (((L1 ++ [q]) ++ rq :: M2).map fun k => (LT.nd h k).p) (sepL ((L1 ++ [q]).map (treeA h)) :: sepL (M2.map (treeA h)) :: m)) k := by
  have eR : (L1 ++ [q]) ++ rq :: M2 = L1 ++ q :: rq :: M2 := by simp
  have K0 := Has.shutx2 hka hva hca K
  rw [← eR] at K0
  have K1 := Has.openx1 (L1 := L1 ++ [q]) hka hva hca K0
  have K2 : Has (cxA (Cx.top : Cx h h) (LT.nd h rq).p :: opx1 h y bk bv bc (L1 ++ [q]) rq M2 m) k := Has.close_pu (p := True) trivial K1
  simp only [openA, opx1, ndX, List.cons_append, List.nil_append] at K2 ⊢
  exact Sub.any k K2
/-- Down by one kid on a path within. -/
theorem cut_lower {H h : Nat} {c : Cx H (h + 1)} {z : Nd} {L1 L2 : List (LT h)} {q : LT h} {m : List Assn} {k : Piece} (K : Has (ndB z ((L1 ++ q :: L2).map fun q => (LT.nd h q).p).length :: ndK z :: ndV z :: ndC z ((L1 ++ q :: L2).map fun q => (LT.nd h q).p) :: sepL ((L1 ++ q :: L2).map (treeA h)) :: cxA c z.p :: m) k) : Has (openA h (LT.nd h q) (LT.ksL h q) ++ cxA (.down c z L1 L2) (LT.nd h q).p :: m) k := by
  have K2 := Has.head K fun _ K => Has.head K fun _ K => Has.head K fun _ K => Has.head K fun _ K => Has.kidM K
  exact Has.downP (by rw [List.append_assoc]; exact K2)
set_option maxHeartbeats 8000000 in
set_option maxRecDepth 100000 in
theorem Bt.cut (B : Base) (g o r cnt H : Nat) (t : LT H) (key : Str) (v : Int) (ho : 2 ≤ o) (ho2 : o ≤ 64) (hok : okT o H true t) (hu : Up (toL H t)) (hm : (key, v) ∈ toL H t) (hb : (toL H t).length < 2 ^ 39) :
    Fn Try.prog B 48 #[pV g, pV (LT.nd H t).p, kT key] [trB g o r cnt, treeA H t] (fun u l => ∃ t', okN o 0 H t' ∧ toL H t' = cutL key (toL H t) ∧ (LT.nd H t').p = (LT.nd H t).p ∧ l = [trB g o r cnt, treeA H t']) := by
  obtain ⟨x, ks, rfl⟩ : ∃ x ks, t = LT.mk H x ks := ⟨_, _, (LT.eta H t).symm⟩
  simp only [LT.nd_mk]
  have hokN : okN o (0 + 1) H (LT.mk H x ks) := by
    have h1 := okN_rm.2 hok
    refine okN_mk.2 ⟨(okN_mk.1 h1).1, ?_, (okN_mk.1 h1).2.2⟩
    have h2 := (okN_mk.1 h1).2.1
    by_cases hH : H = 0
    · subst hH
      have hm' : (key, v) ∈ x.kv := hm
      exact List.length_pos_of_mem hm'
    · simp [rm, hH] at h2; omega
  obtain ⟨G, hG⟩ : ∃ G, cutL key (toL H (LT.mk H x ks)) = G := ⟨_, rfl⟩
  rw [hG]
  refine Fn.enter3 239 Try.func48 rfl rfl (Nat.le_of_ble_eq_true rfl) (fun F => ?_)
  try simp only [List.cons_append, List.nil_append]
  refine T.conv (l' := openA H x ks ++ cxA (Cx.top : Cx H H) x.p :: trB g o r cnt :: F) (fun w ho => ho.map fun k K => put_top (by have K2 := Has.openM (m := trB g o r cnt :: F) (Has.swap K); exact K2)) ?_
  simp only [openA, List.cons_append, List.nil_append]
  refine T.scope ?_
  refine T.seq ?_
  refine T.label ?_
  refine T.block ?_
  refine T.loop (fun mz fz lz => ∃ (f0 : Fr) (h : Nat) (y : Nd) (js : List (LK h)) (c : Cx H h) (key : Str) (v : Int), (c.ok o 0 ∧ okN o (c.lo o 0 + 1) h (LT.mk h y js) ∧ Up (toL h (LT.mk h y js)) ∧ (key, v) ∈ toL h (LT.mk h y js) ∧ c.lf ++ cutL key (toL h (LT.mk h y js)) ++ c.rg = G ∧ (LT.nd H (c.plug (LT.mk h y js))).p = x.p) ∧ mz = h ∧ fz = (upd (upd (upd f0 0 (pV g)) 1 (pV y.p)) 2 (kT key)) ∧ lz = openA h y js ++ cxA c y.p :: trB g o r cnt :: F) ?_ ?_
  · refine ⟨_, _, ⟨_, H, x, ks, .top, key, v, ⟨trivial, hokN, hu, hm, by rw [hG]; simp [Cx.lf, Cx.rg], by rw [show (Cx.top : Cx H H).plug (LT.mk H x ks) = LT.mk H x ks from rfl, LT.nd_mk]⟩, rfl, (updS rfl (updS rfl (updS rfl rfl))), rfl⟩, Sub.any⟩
  · skip
    rintro mz fz lz ⟨f0, h, y, js, c, key, v, ⟨hc, hk, hut, hmt, hGt, hpp⟩, hmz, rfl, rfl⟩
    subst mz
    try simp only [List.cons_append, List.nil_append]
    have hkm := okN_mk.1 hk
    have hkv := up_kv hkm.2.2.1 hut
    refine T.own fun w0 ho0 => ?_
    have hpk0 := (ho0.slice_at (p := y.ka) (m := y.kv.length) (c := y.kc) (k := y.kv.length)).2.1
    have hpv := (ho0.slice_at (p := y.va) (m := y.kv.length) (c := y.vc) (k := y.kv.length)).2.1
    have hpc := (ho0.slice_at (p := y.ca) (m := (js.map fun q => (LK.nd h q).p).length) (c := y.cc) (k := (js.map fun q => (LK.nd h q).p).length)).2.1
    clear ho0
    refine T.block ?_
    refine T.seq ?_
    refine T.region ?_
    refine LW.q rfl (Qt.move rfl) ?_
    refine LW.q rfl (Qt.move rfl) ?_
    refine LW.e rfl (Ef.call (Bt.find B y (js.map fun q => (LK.nd h q).p).length key hkv.rise (by omega)) Try.func44 rfl rfl rfl ?_)
    rintro _ _ ⟨rfl, rfl⟩
    try simp only [List.cons_append, List.nil_append]
    refine LW.q rfl (Qt.move rfl) ?_
    refine LW.q rfl (Qt.extr rfl rfl) ?_
    refine LW.q rfl (Qt.extr rfl rfl) ?_
    refine LW.q rfl (Qt.assign rfl) ?_
    refine LW.q rfl (Qt.assign rfl) ?_
    refine LW.done ?_
    refine T.block ?_
    refine T.seq ?_
    refine T.region ?_
    refine LW.q rfl (Qt.move rfl) ?_
    refine LW.e rfl (Ef.call (Bt.leaf B y (js.map fun q => (LK.nd h q).p).length) Try.func45 rfl rfl rfl ?_)
    rintro _ _ ⟨rfl, rfl⟩
    try simp only [List.cons_append, List.nil_append]
    refine LW.q rfl (Qt.assign rfl) ?_
    refine LW.done ?_
    refine T.condP rfl (fun hlf => ?_) (fun hlf => ?_)
    · skip
      obtain rfl : h = 0 := by rcases hkm.2.2.1 with e | e; exact e; simp at hlf; rw [hlf] at e; simp at e
      have hsp := spot_has hkv hmt
      have hil := (List.getElem?_eq_some_iff.1 hsp).1
      refine T.seq ?_
      refine T.draw 21 ([ndB y (js.map fun q => (LK.nd 0 q).p).length]) (by kernel_rfl) (Nat.le_of_ble_eq_true rfl) (by kernel_rfl) ?_
      refine RW.q 0 rfl rfl (by kernel_rfl) Sub.any (Qt.move rfl) ?_
      refine RW.q 1 rfl rfl (by kernel_rfl) Sub.any (Qt.move rfl) ?_
      refine RW.q 2 rfl rfl (by kernel_rfl) Sub.any (Qt.move rfl) ?_
      refine RW.q 3 rfl rfl (by kernel_rfl) Sub.any (Qt.nilCheck rfl) ?_
      refine RW.q 4 rfl rfl (by kernel_rfl) Sub.any (Qt.fieldAddr0 (by kernel_rfl) rfl) ?_
      first | refine RW.q 5 rfl rfl (by kernel_rfl) Sub.any (Qt.load (by kernel_rfl) rfl rfl) ?_ | refine RW.q 5 rfl rfl (by kernel_rfl) Sub.any (Qt.load (by kernel_rfl) rfl (map_at _ _ _ (by omega))) ?_ | refine RW.q 5 rfl rfl (by kernel_rfl) Sub.any (Qt.load (by kernel_rfl) rfl (flat_cell0 _ _ _ (by intros; rfl) _ (by omega) (by rfl))) ?_ | refine RW.q 5 rfl rfl (by kernel_rfl) Sub.any (Qt.load (by kernel_rfl) rfl (flat_cell _ _ _ (by intros; rfl) _ _ (by omega) (by rfl))) ?_ | refine RW.q 5 rfl rfl (by kernel_rfl) Sub.any (Qt.load (by kernel_rfl) rfl (bytes_at _ _ (by omega))) ?_
      refine RW.q 6 rfl rfl (by kernel_rfl) Sub.any (Qt.move rfl) ?_
      refine RW.q 7 rfl rfl (by kernel_rfl) Sub.any (Qt.move rfl) ?_
      refine RW.q 8 rfl rfl (by kernel_rfl) Sub.any (Qt.add (r := ((spot y.ks key + 1 : Nat) : Int)) rfl rfl (by rw [wr64 (by omega) (by omega)]; omega)) ?_
      refine RW.q 10 rfl rfl (by kernel_rfl) Sub.any (Qt.move rfl) ?_
      refine RW.q 11 rfl rfl (by kernel_rfl) Sub.any (Qt.nilCheck rfl) ?_
      refine RW.q 12 rfl rfl (by kernel_rfl) Sub.any (Qt.fieldAddr (off := 1) (by kernel_rfl) rfl) ?_
      first | refine RW.q 13 rfl rfl (by kernel_rfl) Sub.any (Qt.load (by kernel_rfl) rfl rfl) ?_ | refine RW.q 13 rfl rfl (by kernel_rfl) Sub.any (Qt.load (by kernel_rfl) rfl (map_at _ _ _ (by omega))) ?_ | refine RW.q 13 rfl rfl (by kernel_rfl) Sub.any (Qt.load (by kernel_rfl) rfl (flat_cell0 _ _ _ (by intros; rfl) _ (by omega) (by rfl))) ?_ | refine RW.q 13 rfl rfl (by kernel_rfl) Sub.any (Qt.load (by kernel_rfl) rfl (flat_cell _ _ _ (by intros; rfl) _ _ (by omega) (by rfl))) ?_ | refine RW.q 13 rfl rfl (by kernel_rfl) Sub.any (Qt.load (by kernel_rfl) rfl (bytes_at _ _ (by omega))) ?_
      refine RW.q 14 rfl rfl (by kernel_rfl) Sub.any (Qt.move rfl) ?_
      refine RW.q 15 rfl rfl (by kernel_rfl) Sub.any (Qt.move rfl) ?_
      refine RW.q 16 rfl rfl (by kernel_rfl) Sub.any (Qt.add (r := ((spot y.ks key + 1 : Nat) : Int)) rfl rfl (by rw [wr64 (by omega) (by omega)]; omega)) ?_
      refine RW.one 9 (by kernel_rfl) ?_
      refine RO.eS rfl rfl (Ef.call (Lb.deleteS B y.ka y.kv.length y.kc (spot y.ks key) (y.ks.map kT) (by simp) hil (by omega) one_kT) Try.func77 rfl rfl rfl ?_)
      rintro _ _ ⟨rfl, rfl⟩
      try simp only [List.cons_append, List.nil_append]
      refine ⟨Sub.any, ?_⟩
      refine RW.one 17 (by kernel_rfl) ?_
      refine RO.r rfl rfl (by kernel_rfl) (Ef.call (Lb.deleteI B y.va y.kv.length y.vc (spot y.ks key) (y.vs.map iV) (by simp) hil (by omega) one_iV) Try.func78 rfl rfl rfl ?_)
      rintro _ _ ⟨rfl, rfl⟩
      try simp only [List.cons_append, List.nil_append]
      refine RW.q 18 rfl rfl (by kernel_rfl) (Sub.refl _) (Qt.nilCheck rfl) ?_
      refine RW.q 19 rfl rfl (by kernel_rfl) (Sub.refl _) (Qt.fieldAddr0 (by kernel_rfl) rfl) ?_
      refine RW.one 20 (by kernel_rfl) ?_
      refine RO.r0 rfl rfl (by kernel_rfl) (Ef.store1 (by kernel_rfl) rfl rfl rfl (by first | (simp; done) | (simp; omega)) ?_)
      try simp only [List.set_cons_zero, List.set_cons_succ]
      refine RW.done (by rfl) ?_
      simp only [List.drop_succ_cons, List.drop_zero, List.drop_nil]
      refine LW.q rfl (Qt.nilCheck rfl) ?_
      refine LW.q rfl (Qt.fieldAddr (off := 1) (by kernel_rfl) rfl) ?_
      refine LW.e0 rfl (Ef.store1 (by kernel_rfl) rfl rfl rfl (by first | (simp; done) | (simp; omega)) ?_)
      try simp only [List.set_cons_zero, List.set_cons_succ]
      refine LW.done ?_
      refine T.ret ?_
      exact ⟨.inl rfl, _, _, res [] rfl trivial, ⟨_, (cut_leaf (r := 0) (g := 0) (cnt := 0) (F := []) (k := fun _ => none) (m1 := 0) hc hk hkv hmt hGt).1, (cut_leaf (r := 0) (g := 0) (cnt := 0) (F := []) (k := fun _ => none) (m1 := 0) hc hk hkv hmt hGt).2, by rw [← hpp]; exact Cx.plug_p rfl, rfl⟩, (fun k K => cut_leaf_has hil (Sub.any k K))⟩
    · skip
      obtain ⟨h', rfl⟩ : ∃ h', h = h' + 1 := by cases h with | zero => exact absurd (by have : js = [] := (by cases js with | nil => rfl | cons e _ => exact e.elim); rw [this]; rfl) hlf | succ h' => exact ⟨h', rfl⟩
      have hjl := hkm.2.2.1.resolve_left (by omega)
      refine T.seq ?_
      refine T.region ?_
      refine LW.q rfl (Qt.move rfl) ?_
      first | refine LW.q rfl (Qt.notP rfl) ?_ | refine LW.q rfl (Qt.notB rfl) ?_
      refine LW.q rfl (Qt.assign rfl) ?_
      refine LW.done ?_
      refine T.condP rfl (fun hnt => ?_) (fun hnt => ?_)
      · skip
        obtain ⟨L1, q, L2, rfl, hl1, hl2, hmq⟩ := cut_kid (x := y) (ks := js) hut hjl hnt hmt
        refine T.conv (l' := trB g o r cnt :: treeA (h' + 1) (LT.mk (h' + 1) y (L1 ++ q :: L2)) :: cxA c y.p :: F) (fun w ho => ho.map fun k K => cut_fold K) ?_
        refine T.seq ?_
        refine T.region ?_
        refine LW.q rfl (Qt.move rfl) ?_
        refine LW.q rfl (Qt.move rfl) ?_
        refine LW.q rfl (Qt.move rfl) ?_
        refine LW.e rfl (Ef.call ((by have := Bt.fill B g o r cnt h' y L1 L2 q ho ho2 (hk.mono (by omega)); rw [hl1] at this; exact this)) Try.func79 rfl rfl rfl ?_)
        rintro _ _ ⟨x', L1', q', L2', e1, e2, e3, e4, e5, e6, rfl, rfl⟩
        try simp only [List.cons_append, List.nil_append]
        rw [← e1]
        have hut' : Up (toL (h' + 1) (LT.mk (h' + 1) x' (L1' ++ q' :: L2'))) := by rw [e4]; exact hut
        have hlen' := (okK.1 e3).2.2.1
        have hsp := spot_of_mem (K := x'.kv) (A := L1'.map (toL h')) (q := toL h' q') (S := L2'.map (toL h')) (key := key) (v := v) (by rw [← List.map_cons, ← List.map_append]; exact hut') (by simp at hlen' ⊢; omega) (by simp at hlen' ⊢; omega) (e6 _ hmq)
        refine LW.conv (l' := opn1 h' x' L1' q' L2' (cxA c x'.p :: trB g o r cnt :: F)) (fun w ho => ho.map fun k K => Has.open1 (Sub.any k K)) ?_
        simp only [opn1]
        refine LW.own fun w1 ho1 => ?_
        have hpc' := (ho1.slice_at (p := x'.ca) (m := ((L1' ++ q' :: L2').map fun q => (LT.nd h' q).p).length) (c := x'.cc) (k := ((L1' ++ q' :: L2').map fun q => (LT.nd h' q).p).length)).2.1
        clear ho1
        obtain ⟨b0, o0, hca', hc0⟩ := (RdV.cs (B := B) hpc').at (by simp; omega)
        refine LW.q rfl (Qt.assign rfl) ?_
        refine LW.done ?_
        refine T.seq ?_
        refine T.seq ?_
        refine T.region ?_
        refine LW.q rfl (Qt.move rfl) ?_
        refine LW.q rfl (Qt.move rfl) ?_
        refine LW.e rfl (Ef.call (Bt.find B x' ((L1' ++ q' :: L2').map fun q => (LT.nd h' q).p).length key (up_kv e3.2.2.1 hut').rise (by have := (okK.1 e3).1; omega)) Try.func44 rfl rfl rfl ?_)
        rintro _ _ ⟨rfl, rfl⟩
        try simp only [List.cons_append, List.nil_append]
        refine LW.q rfl (Qt.move rfl) ?_
        refine LW.q rfl (Qt.extr rfl rfl) ?_
        refine LW.q rfl (Qt.extr rfl rfl) ?_
        refine LW.q rfl (Qt.assign rfl) ?_
        refine LW.q rfl (Qt.assign rfl) ?_
        refine LW.done ?_
        refine T.seq ?_
        refine T.region ?_
        refine LW.q rfl (Qt.move rfl) ?_
        refine LW.q rfl (Qt.move rfl) ?_
        first | refine LW.gF (t := 62) rfl rfl ?_ | refine LW.gF (t := 62) rfl (decide_eq_false (hsp.2)) ?_ | refine LW.gF (t := 62) rfl (hsp.2) ?_
        refine LW.q rfl (Qt.move rfl) ?_
        refine LW.q rfl (Qt.nilCheck rfl) ?_
        refine LW.q rfl (Qt.fieldAddr (off := 2) (by kernel_rfl) rfl) ?_
        refine LW.q rfl (Qt.load (v := .slice (some ⟨b0, o0, none⟩) ((L1' ++ q' :: L2').map fun q => (LT.nd h' q).p).length x'.cc) (by kernel_rfl) rfl (by rw [← hca']; rfl)) ?_
        refine LW.q rfl (Qt.move rfl) ?_
        refine LW.q rfl (Qt.index L1'.length (e := 95) (sz := 1) (by kernel_rfl) rfl rfl (by have := hsp.1; rw [List.length_map] at this; rw [Nd.ks, this]) (by simp)) ?_
        refine LW.q rfl (Qt.loadW (v := pV (LT.nd h' q').p) (by kernel_rfl) rfl (fun w ho => by have := hc0 L1'.length (by simp) w (ho.map Sub.any); simpa using this)) ?_
        refine LW.q rfl (Qt.move rfl) ?_
        refine LW.q rfl (Qt.neqSame (by kernel_rfl) rfl rfl) ?_
        refine LW.q rfl (Qt.pick rfl rfl) ?_
        refine LW.done ?_
        first | refine T.condF rfl ?_ | refine T.condPF rfl (by omega) ?_ | refine T.condBF rfl (by omega) ?_
        have hl' : L1'.length + L2'.length = x'.kv.length := by simp at hlen'; omega
        have hkq' := okN_false.1 ((okK.1 e3).2.2.2 q' (by simp))
        have hupq : Up (toL h' q') := by rw [toL_mid hl'] at hut'; exact up_mid hut'
        refine T.skip ?_
        refine T.region ?_
        refine LW.q rfl (Qt.move rfl) ?_
        refine LW.q rfl (Qt.assign rfl) ?_
        refine LW.done ?_
        refine ⟨_, ?_, _, ⟨_, h', LT.nd h' q', LT.ksL h' q', .down c x' L1' L2', key, v, ⟨cut_ok (okK.2 ⟨(okK.1 e3).1, by have := hkm.2.1; omega, hlen', (okK.1 e3).2.2.2⟩) hc, by rw [LT.eta]; exact ⟨hkq'.1, (show o - 1 + 1 ≤ _ by omega), hkq'.2.2.1, hkq'.2.2.2⟩, by rw [LT.eta]; exact hupq, by rw [LT.eta]; exact e6 _ hmq, by rw [LT.eta]; exact cut_down hl' hut' (e6 _ hmq) (by rw [e4]; exact hGt), by rw [LT.eta, ← hpp]; exact Cx.plug_p (c := c) (t := LT.mk (h' + 1) x' (L1' ++ q' :: L2')) (t' := LT.mk (h' + 1) y (L1 ++ q :: L2)) e1⟩, rfl, (updS rfl (updS rfl (updS rfl rfl))), rfl⟩, (fun k K => Has.downP (m := trB g o r cnt :: F) (by simp only [nodeL, List.cons_append, List.nil_append]; exact Sub.any k K))⟩
        first | omega | (simp; omega)
      · skip
        obtain ⟨p, hp, hpk⟩ : ∃ p, y.kv[spot y.ks key]? = some p ∧ p.1 = key := by rw [keyAt] at hnt; exact Option.map_eq_some_iff.1 (Decidable.not_not.1 hnt)
        have hil := (List.getElem?_eq_some_iff.1 hp).1
        obtain ⟨L1, q, rq, M2, rfl, hl1, hl2⟩ := cut_two (ks := js) hjl hil
        have hk2 := okK.1 hk
        have hkq := okN_false.1 (hk2.2.2.2 q (by simp))
        have hkrq := okN_false.1 (hk2.2.2.2 rq (by simp))
        obtain ⟨bk, hka⟩ := hpk0 (by omega)
        obtain ⟨bv, hva⟩ := hpv (by omega)
        obtain ⟨bc, hca⟩ := hpc (by show 0 < ((L1 ++ q :: rq :: M2).map fun q => (LT.nd h' q).p).length; rw [List.length_map, List.length_append, List.length_cons]; omega)
        refine T.conv (l' := opx2 h' y bk bv bc L1 q rq M2 (cxA c y.p :: trB g o r cnt :: F)) (fun w ho => ho.map fun k K => cut_open2 hka hva hca K) ?_
        simp only [opx2, ndX]
        refine T.seq ?_
        refine T.drawAll 18 (by kernel_rfl) (Nat.le_of_ble_eq_true rfl) (by kernel_rfl) ?_
        refine RW.q 0 rfl rfl (by kernel_rfl) (Sub.refl _) (Qt.move rfl) ?_
        refine RW.q 1 rfl rfl (by kernel_rfl) (Sub.refl _) (Qt.nilCheck rfl) ?_
        refine RW.q 2 rfl rfl (by kernel_rfl) (Sub.refl _) (Qt.fieldAddr (off := 2) (by kernel_rfl) rfl) ?_
        first | refine RW.q 3 rfl rfl (by kernel_rfl) (Sub.refl _) (Qt.load (by kernel_rfl) rfl rfl) ?_ | refine RW.q 3 rfl rfl (by kernel_rfl) (Sub.refl _) (Qt.load (by kernel_rfl) rfl (map_at _ _ _ (by omega))) ?_ | refine RW.q 3 rfl rfl (by kernel_rfl) (Sub.refl _) (Qt.load (by kernel_rfl) rfl (flat_cell0 _ _ _ (by intros; rfl) _ (by omega) (by rfl))) ?_ | refine RW.q 3 rfl rfl (by kernel_rfl) (Sub.refl _) (Qt.load (by kernel_rfl) rfl (flat_cell _ _ _ (by intros; rfl) _ _ (by omega) (by rfl))) ?_ | refine RW.q 3 rfl rfl (by kernel_rfl) (Sub.refl _) (Qt.load (by kernel_rfl) rfl (bytes_at _ _ (by omega))) ?_
        refine RW.q 4 rfl rfl (by kernel_rfl) (Sub.refl _) (Qt.move rfl) ?_
        refine RW.q 5 rfl rfl (by kernel_rfl) (Sub.refl _) (Qt.index L1.length (e := 95) (sz := 1) (by kernel_rfl) rfl rfl (by rw [hl1]) (by simp)) ?_
        refine RW.q 6 rfl rfl (by kernel_rfl) (Sub.refl _) (Qt.load (v := pV (LT.nd h' q).p) (by kernel_rfl) rfl (by simp)) ?_
        refine RW.q 7 rfl rfl (by kernel_rfl) (Sub.refl _) (Qt.nilCheck rfl) ?_
        refine RW.q 8 rfl rfl (by kernel_rfl) (Sub.refl _) (Qt.fieldAddr0 (by kernel_rfl) rfl) ?_
        first | refine RW.q 9 rfl rfl (by kernel_rfl) (Sub.refl _) (Qt.load (by kernel_rfl) rfl rfl) ?_ | refine RW.q 9 rfl rfl (by kernel_rfl) (Sub.refl _) (Qt.load (by kernel_rfl) rfl (map_at _ _ _ (by omega))) ?_ | refine RW.q 9 rfl rfl (by kernel_rfl) (Sub.refl _) (Qt.load (by kernel_rfl) rfl (flat_cell0 _ _ _ (by intros; rfl) _ (by omega) (by rfl))) ?_ | refine RW.q 9 rfl rfl (by kernel_rfl) (Sub.refl _) (Qt.load (by kernel_rfl) rfl (flat_cell _ _ _ (by intros; rfl) _ _ (by omega) (by rfl))) ?_ | refine RW.q 9 rfl rfl (by kernel_rfl) (Sub.refl _) (Qt.load (by kernel_rfl) rfl (bytes_at _ _ (by omega))) ?_
        refine RW.q 10 rfl rfl (by kernel_rfl) (Sub.refl _) (Qt.len (e := 9) (sz := 1) (by kernel_rfl) rfl) ?_
        refine RW.q 11 rfl rfl (by kernel_rfl) (Sub.refl _) (Qt.move rfl) ?_
        refine RW.q 12 rfl rfl (by kernel_rfl) (Sub.refl _) (Qt.nilCheck rfl) ?_
        refine RW.q 13 rfl rfl (by kernel_rfl) (Sub.refl _) (Qt.fieldAddr0 (by kernel_rfl) rfl) ?_
        first | refine RW.q 14 rfl rfl (by kernel_rfl) (Sub.refl _) (Qt.loadAgg [_] (by kernel_rfl) rfl ⟨rfl, trivial⟩) ?_ | refine RW.q 14 rfl rfl (by kernel_rfl) (Sub.refl _) (Qt.loadAgg [_] (by kernel_rfl) rfl (by exact rdl_flat _ _ _ (by intros; rfl) _ (by omega))) ?_
        refine RW.one 15 (by kernel_rfl) ?_
        refine RO.e rfl rfl (Ef.call (Bt.least B o (by omega)) Try.func80 rfl rfl rfl ?_)
        rintro _ _ ⟨rfl, rfl⟩
        try simp only [List.cons_append, List.nil_append]
        refine ⟨Sub.any, ?_⟩
        refine RW.q 16 rfl rfl (by kernel_rfl) (Sub.refl _) (Qt.gtr rfl rfl) ?_
        refine RW.q 17 rfl rfl (by kernel_rfl) (Sub.refl _) (Qt.assign rfl) ?_
        refine RW.done (by rfl) ?_
        simp only [List.drop_succ_cons, List.drop_zero, List.drop_nil]
        refine LW.done ?_
        refine T.condP rfl (fun hbig => ?_) (fun hbig => ?_)
        · skip
          refine T.conv (l' := openA h' (LT.nd h' q) (LT.ksL h' q) ++ cxA (Cx.top : Cx h' h') (LT.nd h' q).p :: ndX y bk bv bc ((L1 ++ q :: rq :: M2).map fun k => (LT.nd h' k).p) (sepL (L1.map (treeA h')) :: sepL ((rq :: M2).map (treeA h')) :: cxA c y.p :: trB g o r cnt :: F)) (fun w ho => ho.map fun k K => cut_one hka hva hca (Sub.any k K)) ?_
          simp only [openA, ndX, List.cons_append, List.nil_append]
          refine T.seq ?_
          refine T.region ?_
          refine LW.q rfl (Qt.move rfl) ?_
          refine LW.q rfl (Qt.nilCheck rfl) ?_
          refine LW.q rfl (Qt.fieldAddr (off := 2) (by kernel_rfl) rfl) ?_
          first | refine LW.q rfl (Qt.load (by kernel_rfl) rfl rfl) ?_ | refine LW.q rfl (Qt.load (by kernel_rfl) rfl (map_at _ _ _ (by omega))) ?_ | refine LW.q rfl (Qt.load (by kernel_rfl) rfl (flat_cell0 _ _ _ (by intros; rfl) _ (by omega) (by rfl))) ?_ | refine LW.q rfl (Qt.load (by kernel_rfl) rfl (flat_cell _ _ _ (by intros; rfl) _ _ (by omega) (by rfl))) ?_ | refine LW.q rfl (Qt.load (by kernel_rfl) rfl (bytes_at _ _ (by omega))) ?_
          refine LW.q rfl (Qt.move rfl) ?_
          refine LW.q rfl (Qt.index L1.length (e := 95) (sz := 1) (by kernel_rfl) rfl rfl (by rw [hl1]) (by simp)) ?_
          refine LW.q rfl (Qt.load (v := pV (LT.nd h' q).p) (by kernel_rfl) rfl (by simp)) ?_
          refine LW.q rfl (Qt.assign rfl) ?_
          refine LW.done ?_
          refine T.seq ?_
          refine T.block ?_
          refine T.loop (fun mz fz lz => ∃ (f0 : Fr) (h2 : Nat) (z : Nd) (zs : List (LK h2)) (c2 : Cx h' h2), (c2.plug (LT.mk h2 z zs) = q ∧ c2.ok o (o - 1) ∧ okN o (o - 1) h2 (LT.mk h2 z zs) ∧ c2.rg = []) ∧ mz = h2 ∧ fz = (upd (upd (upd (upd f0 0 (pV g)) 1 (pV y.p)) 6 (.int .i64 (spot y.ks key))) 11 (pV z.p)) ∧ lz = openA h2 z zs ++ cxA c2 z.p :: ndX y bk bv bc ((L1 ++ q :: rq :: M2).map fun k => (LT.nd h' k).p) (sepL (L1.map (treeA h')) :: sepL ((rq :: M2).map (treeA h')) :: cxA c y.p :: trB g o r cnt :: F)) ?_ ?_
          · refine ⟨_, _, ⟨_, h', LT.nd h' q, LT.ksL h' q, .top, ⟨by rw [LT.eta]; rfl, trivial, by rw [LT.eta]; exact hkq, rfl⟩, rfl, (updS rfl (updS rfl (updS rfl (updS rfl rfl)))), rfl⟩, Sub.any⟩
          · skip
            rintro mz fz lz ⟨f0, h2, z, zs, c2, ⟨hzp, hzc, hzk, hzr⟩, hmz, rfl, rfl⟩
            subst mz
            try simp only [List.cons_append, List.nil_append]
            have hzm := okN_mk.1 hzk
            refine T.own fun w1 ho1 => ?_
            have hzpk := (ho1.slice_at (p := z.ka) (m := z.kv.length) (c := z.kc) (k := z.kv.length)).2.1
            have hzpv := (ho1.slice_at (p := z.va) (m := z.kv.length) (c := z.vc) (k := z.kv.length)).2.1
            have hzpc := (ho1.slice_at (p := z.ca) (m := (zs.map fun q => (LK.nd h2 q).p).length) (c := z.cc) (k := (zs.map fun q => (LK.nd h2 q).p).length)).2.1
            clear ho1
            refine T.seq ?_
            refine T.seq ?_
            refine T.region ?_
            refine LW.q rfl (Qt.move rfl) ?_
            refine LW.e rfl (Ef.call (Bt.leaf B z (zs.map fun q => (LK.nd h2 q).p).length) Try.func45 rfl rfl rfl ?_)
            rintro _ _ ⟨rfl, rfl⟩
            try simp only [List.cons_append, List.nil_append]
            first | refine LW.q rfl (Qt.notP rfl) ?_ | refine LW.q rfl (Qt.notB rfl) ?_
            refine LW.done ?_
            refine T.condP rfl (fun hnz => ?_) (fun hnz => ?_)
            · skip
              obtain ⟨h3, rfl⟩ : ∃ h3, h2 = h3 + 1 := by cases h2 with | zero => exact absurd (by have : zs = [] := (by cases zs with | nil => rfl | cons e _ => exact e.elim); rw [this]; rfl) hnz | succ h3 => exact ⟨h3, rfl⟩
              have hzl := hzm.2.2.1.resolve_left (by omega)
              obtain ⟨Zs, lz, rfl⟩ : ∃ (Zs : List (LT h3)) (lz : LT h3), zs = Zs ++ lz :: [] := ⟨_, _, getLast_cut (l := zs) (by intro e; rw [e] at hzl; simp at hzl)⟩
              obtain ⟨b0, o0, hzca, hc0⟩ := (RdV.cs (B := B) (x := z) (ps := (Zs ++ lz :: []).map fun q => (LT.nd h3 q).p) hzpc).at (by simp)
              obtain ⟨hd1, hd2, hd3⟩ := last_down hzk hzc hzr
              refine T.conv (l' := ndB z ((Zs ++ lz :: []).map fun q => (LT.nd h3 q).p).length :: ndK z :: ndV z :: ndC z ((Zs ++ lz :: []).map fun q => (LT.nd h3 q).p) :: sepL ((Zs ++ lz :: []).map (treeA h3)) :: cxA c2 z.p :: ndX y bk bv bc ((L1 ++ q :: rq :: M2).map fun k => (LT.nd h' k).p) (sepL (L1.map (treeA h')) :: sepL ((rq :: M2).map (treeA h')) :: cxA c y.p :: trB g o r cnt :: F)) (fun w ho => ho) ?_
              refine T.skip ?_
              refine T.block ?_
              refine T.drawAll 12 (by kernel_rfl) (Nat.le_of_ble_eq_true rfl) (by kernel_rfl) ?_
              refine RW.q 0 rfl rfl (by kernel_rfl) (Sub.refl _) (Qt.move rfl) ?_
              refine RW.q 1 rfl rfl (by kernel_rfl) (Sub.refl _) (Qt.nilCheck rfl) ?_
              refine RW.q 2 rfl rfl (by kernel_rfl) (Sub.refl _) (Qt.fieldAddr (off := 2) (by kernel_rfl) rfl) ?_
              refine RW.q 3 rfl rfl (by kernel_rfl) (Sub.refl _) (Qt.load (v := .slice (some ⟨b0, o0, none⟩) ((Zs ++ lz :: []).map fun q => (LT.nd h3 q).p).length z.cc) (by kernel_rfl) rfl (by rw [← hzca]; rfl)) ?_
              refine RW.q 4 rfl rfl (by kernel_rfl) (Sub.refl _) (Qt.move rfl) ?_
              refine RW.q 5 rfl rfl (by kernel_rfl) (Sub.refl _) (Qt.nilCheck rfl) ?_
              refine RW.q 6 rfl rfl (by kernel_rfl) (Sub.refl _) (Qt.fieldAddr (off := 2) (by kernel_rfl) rfl) ?_
              first | refine RW.q 7 rfl rfl (by kernel_rfl) (Sub.refl _) (Qt.load (by kernel_rfl) rfl rfl) ?_ | refine RW.q 7 rfl rfl (by kernel_rfl) (Sub.refl _) (Qt.load (by kernel_rfl) rfl (map_at _ _ _ (by omega))) ?_ | refine RW.q 7 rfl rfl (by kernel_rfl) (Sub.refl _) (Qt.load (by kernel_rfl) rfl (flat_cell0 _ _ _ (by intros; rfl) _ (by omega) (by rfl))) ?_ | refine RW.q 7 rfl rfl (by kernel_rfl) (Sub.refl _) (Qt.load (by kernel_rfl) rfl (flat_cell _ _ _ (by intros; rfl) _ _ (by omega) (by rfl))) ?_ | refine RW.q 7 rfl rfl (by kernel_rfl) (Sub.refl _) (Qt.load (by kernel_rfl) rfl (bytes_at _ _ (by omega))) ?_
              refine RW.q 8 rfl rfl (by kernel_rfl) (Sub.refl _) (Qt.len (e := 95) (sz := 1) (by kernel_rfl) rfl) ?_
              refine RW.q 9 rfl rfl (by kernel_rfl) (Sub.refl _) (Qt.sub (r := (Zs.length : Int)) rfl rfl (by have := hzm.1; have h9 : (Zs ++ lz :: []).length = z.kv.length + 1 := hzl; simp at h9; rw [wr64 (by simp <;> omega) (by simp <;> omega)]; simp)) ?_
              refine RW.q 10 rfl rfl (by kernel_rfl) (Sub.refl _) (Qt.index Zs.length (e := 95) (sz := 1) (by kernel_rfl) rfl rfl rfl (by simp)) ?_
              refine RW.q 11 rfl rfl (by kernel_rfl) (Sub.refl _) (Qt.loadW (v := pV (LT.nd h3 lz).p) (by kernel_rfl) rfl (fun w ho => by have := hc0 Zs.length (by simp) w (ho.map Sub.any); simpa using this)) ?_
              refine RW.done (by rfl) ?_
              simp only [List.drop_succ_cons, List.drop_zero, List.drop_nil]
              refine LW.q rfl (Qt.assign rfl) ?_
              refine LW.done ?_
              refine ⟨_, ?_, _, ⟨_, h3, LT.nd h3 lz, LT.ksL h3 lz, .down c2 z Zs [], ⟨by rw [LT.eta]; exact hzp, hd1, hd3, hd2⟩, rfl, (updS rfl (updS rfl (updS rfl (updS rfl rfl)))), rfl⟩, (fun k K => cut_lower (Sub.any k K))⟩
              first | omega | (simp; omega)
            · skip
              obtain rfl : h2 = 0 := by rcases hzm.2.2.1 with e | e; exact e; simp at hnz; rw [hnz] at e; simp at e
              obtain ⟨zv, e, hze⟩ : ∃ zv e, z.kv = zv ++ [e] := ⟨_, _, getLast_cut (l := z.kv) (by intro e; have := hzm.2.1; rw [e] at this; simp at this; omega)⟩
              have hzl : z.kv.length = zv.length + 1 := by rw [hze]; simp
              have hzb := hzm.1
              obtain ⟨b1, o1, hzka, hc1⟩ := (RdV.ks (B := B) hzpk).at (by omega)
              obtain ⟨b2, o2, hzva, hc2⟩ := (RdV.vs (B := B) hzpv).at (by omega)
              refine T.exit ?_
              refine T.seq ?_
              refine T.draw 36 ([xB y bk bv bc ((L1 ++ q :: rq :: M2).map fun k => (LT.nd h' k).p).length, ndB z (zs.map fun q => (LK.nd 0 q).p).length, ndK z, ndV z]) (by kernel_rfl) (Nat.le_of_ble_eq_true rfl) (by kernel_rfl) ?_
              refine RW.q 0 rfl rfl (by kernel_rfl) Sub.any (Qt.move rfl) ?_
              refine RW.q 1 rfl rfl (by kernel_rfl) Sub.any (Qt.nilCheck rfl) ?_
              refine RW.q 2 rfl rfl (by kernel_rfl) Sub.any (Qt.fieldAddr0 (by kernel_rfl) rfl) ?_
              first | refine RW.q 3 rfl rfl (by kernel_rfl) Sub.any (Qt.load (by kernel_rfl) rfl rfl) ?_ | refine RW.q 3 rfl rfl (by kernel_rfl) Sub.any (Qt.load (by kernel_rfl) rfl (map_at _ _ _ (by omega))) ?_ | refine RW.q 3 rfl rfl (by kernel_rfl) Sub.any (Qt.load (by kernel_rfl) rfl (flat_cell0 _ _ _ (by intros; rfl) _ (by omega) (by rfl))) ?_ | refine RW.q 3 rfl rfl (by kernel_rfl) Sub.any (Qt.load (by kernel_rfl) rfl (flat_cell _ _ _ (by intros; rfl) _ _ (by omega) (by rfl))) ?_ | refine RW.q 3 rfl rfl (by kernel_rfl) Sub.any (Qt.load (by kernel_rfl) rfl (bytes_at _ _ (by omega))) ?_
              refine RW.q 4 rfl rfl (by kernel_rfl) Sub.any (Qt.move rfl) ?_
              refine RW.q 5 rfl rfl (by kernel_rfl) Sub.any (Qt.move rfl) ?_
              refine RW.q 6 rfl rfl (by kernel_rfl) Sub.any (Qt.nilCheck rfl) ?_
              refine RW.q 7 rfl rfl (by kernel_rfl) Sub.any (Qt.fieldAddr (off := 1) (by kernel_rfl) rfl) ?_
              first | refine RW.q 8 rfl rfl (by kernel_rfl) Sub.any (Qt.load (by kernel_rfl) rfl rfl) ?_ | refine RW.q 8 rfl rfl (by kernel_rfl) Sub.any (Qt.load (by kernel_rfl) rfl (map_at _ _ _ (by omega))) ?_ | refine RW.q 8 rfl rfl (by kernel_rfl) Sub.any (Qt.load (by kernel_rfl) rfl (flat_cell0 _ _ _ (by intros; rfl) _ (by omega) (by rfl))) ?_ | refine RW.q 8 rfl rfl (by kernel_rfl) Sub.any (Qt.load (by kernel_rfl) rfl (flat_cell _ _ _ (by intros; rfl) _ _ (by omega) (by rfl))) ?_ | refine RW.q 8 rfl rfl (by kernel_rfl) Sub.any (Qt.load (by kernel_rfl) rfl (bytes_at _ _ (by omega))) ?_
              refine RW.q 9 rfl rfl (by kernel_rfl) Sub.any (Qt.move rfl) ?_
              refine RW.q 10 rfl rfl (by kernel_rfl) Sub.any (Qt.move rfl) ?_
              refine RW.q 11 rfl rfl (by kernel_rfl) Sub.any (Qt.nilCheck rfl) ?_
              refine RW.q 12 rfl rfl (by kernel_rfl) Sub.any (Qt.fieldAddr0 (by kernel_rfl) rfl) ?_
              refine RW.q 13 rfl rfl (by kernel_rfl) Sub.any (Qt.load (v := .slice (some ⟨b1, o1, none⟩) z.kv.length z.kc) (by kernel_rfl) rfl (by rw [← hzka]; rfl)) ?_
              refine RW.q 14 rfl rfl (by kernel_rfl) Sub.any (Qt.move rfl) ?_
              refine RW.q 15 rfl rfl (by kernel_rfl) Sub.any (Qt.nilCheck rfl) ?_
              refine RW.q 16 rfl rfl (by kernel_rfl) Sub.any (Qt.fieldAddr0 (by kernel_rfl) rfl) ?_
              first | refine RW.q 17 rfl rfl (by kernel_rfl) Sub.any (Qt.load (by kernel_rfl) rfl rfl) ?_ | refine RW.q 17 rfl rfl (by kernel_rfl) Sub.any (Qt.load (by kernel_rfl) rfl (map_at _ _ _ (by omega))) ?_ | refine RW.q 17 rfl rfl (by kernel_rfl) Sub.any (Qt.load (by kernel_rfl) rfl (flat_cell0 _ _ _ (by intros; rfl) _ (by omega) (by rfl))) ?_ | refine RW.q 17 rfl rfl (by kernel_rfl) Sub.any (Qt.load (by kernel_rfl) rfl (flat_cell _ _ _ (by intros; rfl) _ _ (by omega) (by rfl))) ?_ | refine RW.q 17 rfl rfl (by kernel_rfl) Sub.any (Qt.load (by kernel_rfl) rfl (bytes_at _ _ (by omega))) ?_
              refine RW.q 18 rfl rfl (by kernel_rfl) Sub.any (Qt.len (e := 9) (sz := 1) (by kernel_rfl) rfl) ?_
              refine RW.q 19 rfl rfl (by kernel_rfl) Sub.any (Qt.sub (r := (zv.length : Int)) rfl rfl (by rw [wr64 (by omega) (by omega)]; omega)) ?_
              refine RW.q 20 rfl rfl (by kernel_rfl) Sub.any (Qt.index zv.length (e := 9) (sz := 1) (by kernel_rfl) rfl rfl rfl (by omega)) ?_
              refine RW.q 21 rfl rfl (by kernel_rfl) Sub.any (Qt.loadW (v := kT e.1) (by kernel_rfl) rfl (fun w ho => by have := hc1 zv.length (by simp; omega) w (ho.map Sub.any); simpa [hze] using this)) ?_
              refine RW.q 22 rfl rfl (by kernel_rfl) Sub.any (Qt.move rfl) ?_
              refine RW.q 23 rfl rfl (by kernel_rfl) Sub.any (Qt.nilCheck rfl) ?_
              refine RW.q 24 rfl rfl (by kernel_rfl) Sub.any (Qt.fieldAddr (off := 1) (by kernel_rfl) rfl) ?_
              refine RW.q 25 rfl rfl (by kernel_rfl) Sub.any (Qt.load (v := .slice (some ⟨b2, o2, none⟩) z.kv.length z.vc) (by kernel_rfl) rfl (by rw [← hzva]; rfl)) ?_
              refine RW.q 26 rfl rfl (by kernel_rfl) Sub.any (Qt.move rfl) ?_
              refine RW.q 27 rfl rfl (by kernel_rfl) Sub.any (Qt.nilCheck rfl) ?_
              refine RW.q 28 rfl rfl (by kernel_rfl) Sub.any (Qt.fieldAddr (off := 1) (by kernel_rfl) rfl) ?_
              first | refine RW.q 29 rfl rfl (by kernel_rfl) Sub.any (Qt.load (by kernel_rfl) rfl rfl) ?_ | refine RW.q 29 rfl rfl (by kernel_rfl) Sub.any (Qt.load (by kernel_rfl) rfl (map_at _ _ _ (by omega))) ?_ | refine RW.q 29 rfl rfl (by kernel_rfl) Sub.any (Qt.load (by kernel_rfl) rfl (flat_cell0 _ _ _ (by intros; rfl) _ (by omega) (by rfl))) ?_ | refine RW.q 29 rfl rfl (by kernel_rfl) Sub.any (Qt.load (by kernel_rfl) rfl (flat_cell _ _ _ (by intros; rfl) _ _ (by omega) (by rfl))) ?_ | refine RW.q 29 rfl rfl (by kernel_rfl) Sub.any (Qt.load (by kernel_rfl) rfl (bytes_at _ _ (by omega))) ?_
              refine RW.q 30 rfl rfl (by kernel_rfl) Sub.any (Qt.len (e := 2) (sz := 1) (by kernel_rfl) rfl) ?_
              refine RW.q 31 rfl rfl (by kernel_rfl) Sub.any (Qt.sub (r := (zv.length : Int)) rfl rfl (by rw [wr64 (by omega) (by omega)]; omega)) ?_
              refine RW.q 32 rfl rfl (by kernel_rfl) Sub.any (Qt.index zv.length (e := 2) (sz := 1) (by kernel_rfl) rfl rfl rfl (by omega)) ?_
              refine RW.q 33 rfl rfl (by kernel_rfl) Sub.any (Qt.loadW (v := iV e.2) (by kernel_rfl) rfl (fun w ho => by have := hc2 zv.length (by simp; omega) w (ho.map Sub.any); simpa [hze] using this)) ?_
              refine RW.q 34 rfl rfl (by kernel_rfl) Sub.any (Qt.index (spot y.ks key) (e := 9) (sz := 1) (by kernel_rfl) rfl rfl rfl hil) ?_
              refine RW.one 35 (by kernel_rfl) ?_
              refine RO.r0 rfl rfl (by kernel_rfl) (Ef.store1 (by kernel_rfl) rfl rfl rfl (by first | (simp; done) | (simp; omega)) ?_)
              try simp only [List.set_cons_zero, List.set_cons_succ]
              refine RW.done (by rfl) ?_
              simp only [List.drop_succ_cons, List.drop_zero, List.drop_nil]
              refine LW.q rfl (Qt.index (spot y.ks key) (e := 2) (sz := 1) (by kernel_rfl) rfl rfl rfl hil) ?_
              refine LW.e0 rfl (Ef.store1 (by kernel_rfl) rfl rfl rfl (by first | (simp; done) | (simp; omega)) ?_)
              try simp only [List.set_cons_zero, List.set_cons_succ]
              refine LW.done ?_
              refine T.drawAll 15 (by kernel_rfl) (Nat.le_of_ble_eq_true rfl) (by kernel_rfl) ?_
              refine RW.q 0 rfl rfl (by kernel_rfl) (Sub.refl _) (Qt.move rfl) ?_
              refine RW.q 1 rfl rfl (by kernel_rfl) (Sub.refl _) (Qt.nilCheck rfl) ?_
              refine RW.q 2 rfl rfl (by kernel_rfl) (Sub.refl _) (Qt.fieldAddr0 (by kernel_rfl) rfl) ?_
              first | refine RW.q 3 rfl rfl (by kernel_rfl) (Sub.refl _) (Qt.load (by kernel_rfl) rfl rfl) ?_ | refine RW.q 3 rfl rfl (by kernel_rfl) (Sub.refl _) (Qt.load (by kernel_rfl) rfl (map_at _ _ _ (by omega))) ?_ | refine RW.q 3 rfl rfl (by kernel_rfl) (Sub.refl _) (Qt.load (by kernel_rfl) rfl (flat_cell0 _ _ _ (by intros; rfl) _ (by omega) (by rfl))) ?_ | refine RW.q 3 rfl rfl (by kernel_rfl) (Sub.refl _) (Qt.load (by kernel_rfl) rfl (flat_cell _ _ _ (by intros; rfl) _ _ (by omega) (by rfl))) ?_ | refine RW.q 3 rfl rfl (by kernel_rfl) (Sub.refl _) (Qt.load (by kernel_rfl) rfl (bytes_at _ _ (by omega))) ?_
              refine RW.q 4 rfl rfl (by kernel_rfl) (Sub.refl _) (Qt.move rfl) ?_
              refine RW.q 5 rfl rfl (by kernel_rfl) (Sub.refl _) (Qt.index (spot y.ks key) (e := 9) (sz := 1) (by kernel_rfl) rfl rfl rfl hil) ?_
              refine RW.q 6 rfl rfl (by kernel_rfl) (Sub.refl _) (Qt.load (v := kT e.1) (by kernel_rfl) rfl (by simp [hil])) ?_
              refine RW.q 7 rfl rfl (by kernel_rfl) (Sub.refl _) (Qt.move rfl) ?_
              refine RW.q 8 rfl rfl (by kernel_rfl) (Sub.refl _) (Qt.nilCheck rfl) ?_
              refine RW.q 9 rfl rfl (by kernel_rfl) (Sub.refl _) (Qt.fieldAddr (off := 2) (by kernel_rfl) rfl) ?_
              first | refine RW.q 10 rfl rfl (by kernel_rfl) (Sub.refl _) (Qt.load (by kernel_rfl) rfl rfl) ?_ | refine RW.q 10 rfl rfl (by kernel_rfl) (Sub.refl _) (Qt.load (by kernel_rfl) rfl (map_at _ _ _ (by omega))) ?_ | refine RW.q 10 rfl rfl (by kernel_rfl) (Sub.refl _) (Qt.load (by kernel_rfl) rfl (flat_cell0 _ _ _ (by intros; rfl) _ (by omega) (by rfl))) ?_ | refine RW.q 10 rfl rfl (by kernel_rfl) (Sub.refl _) (Qt.load (by kernel_rfl) rfl (flat_cell _ _ _ (by intros; rfl) _ _ (by omega) (by rfl))) ?_ | refine RW.q 10 rfl rfl (by kernel_rfl) (Sub.refl _) (Qt.load (by kernel_rfl) rfl (bytes_at _ _ (by omega))) ?_
              refine RW.q 11 rfl rfl (by kernel_rfl) (Sub.refl _) (Qt.move rfl) ?_
              refine RW.q 12 rfl rfl (by kernel_rfl) (Sub.refl _) (Qt.index L1.length (e := 95) (sz := 1) (by kernel_rfl) rfl rfl (by rw [hl1]) (by simp)) ?_
              refine RW.q 13 rfl rfl (by kernel_rfl) (Sub.refl _) (Qt.load (v := pV (LT.nd h' q).p) (by kernel_rfl) rfl (by simp)) ?_
              refine RW.q 14 rfl rfl (by kernel_rfl) (Sub.refl _) (Qt.assign rfl) ?_
              refine RW.done (by rfl) ?_
              simp only [List.drop_succ_cons, List.drop_zero, List.drop_nil]
              refine LW.q rfl (Qt.assign rfl) ?_
              refine LW.done ?_
              have hql := cut_last hzp hzc hzr hze
              refine ⟨_, ?_, _, ⟨_, h', LT.nd h' q, LT.ksL h' q, .down c ⟨y.p, y.kv.set (spot y.ks key) e, some ⟨bk, 0, none⟩, y.kc, some ⟨bv, 0, none⟩, y.vc, some ⟨bc, 0, none⟩, y.cc⟩ L1 (rq :: M2), e.1, e.2, ⟨cut_ok (set_ok (hk.mono (by omega)) (by simp)) hc, by rw [LT.eta]; exact ⟨hkq.1, (show o - 1 + 1 ≤ _ by omega), hkq.2.2.1, hkq.2.2.2⟩, by rw [LT.eta]; rw [toL_mid (by simp only [List.length_cons]; omega)] at hut; exact up_mid hut, by rw [LT.eta, hql]; simp, by rw [LT.eta]; exact cut_pred (p := p) (by simp only [List.length_cons]; omega) (by rw [hl1]; exact hp) (by rw [hl1]) hql hut (by rw [hpk]; exact hGt), by rw [LT.eta, ← hpp]; exact Cx.plug_p (c := c) (t := LT.mk (h' + 1) ⟨y.p, y.kv.set (spot y.ks key) e, some ⟨bk, 0, none⟩, y.kc, some ⟨bv, 0, none⟩, y.vc, some ⟨bc, 0, none⟩, y.cc⟩ (L1 ++ q :: rq :: M2)) (t' := LT.mk (h' + 1) y (L1 ++ q :: rq :: M2)) rfl⟩, rfl, (updS rfl (updS rfl (updS rfl rfl))), rfl⟩, (fun k K => cut_set_has (p := p) (e := e) hka hva hca hzp (by simp only [nodeL, List.cons_append, List.nil_append]; exact Sub.any k K))⟩
              first | omega | (simp; omega)
        · skip
          have hqe : (LT.nd h' q).kv.length = o - 1 := by have := hkq.2.1; omega
          have eR : (L1 ++ [q]) ++ rq :: M2 = L1 ++ q :: rq :: M2 := by simp
          refine T.seq ?_
          refine T.drawAll 19 (by kernel_rfl) (Nat.le_of_ble_eq_true rfl) (by kernel_rfl) ?_
          refine RW.q 0 rfl rfl (by kernel_rfl) (Sub.refl _) (Qt.move rfl) ?_
          refine RW.q 1 rfl rfl (by kernel_rfl) (Sub.refl _) (Qt.nilCheck rfl) ?_
          refine RW.q 2 rfl rfl (by kernel_rfl) (Sub.refl _) (Qt.fieldAddr (off := 2) (by kernel_rfl) rfl) ?_
          first | refine RW.q 3 rfl rfl (by kernel_rfl) (Sub.refl _) (Qt.load (by kernel_rfl) rfl rfl) ?_ | refine RW.q 3 rfl rfl (by kernel_rfl) (Sub.refl _) (Qt.load (by kernel_rfl) rfl (map_at _ _ _ (by omega))) ?_ | refine RW.q 3 rfl rfl (by kernel_rfl) (Sub.refl _) (Qt.load (by kernel_rfl) rfl (flat_cell0 _ _ _ (by intros; rfl) _ (by omega) (by rfl))) ?_ | refine RW.q 3 rfl rfl (by kernel_rfl) (Sub.refl _) (Qt.load (by kernel_rfl) rfl (flat_cell _ _ _ (by intros; rfl) _ _ (by omega) (by rfl))) ?_ | refine RW.q 3 rfl rfl (by kernel_rfl) (Sub.refl _) (Qt.load (by kernel_rfl) rfl (bytes_at _ _ (by omega))) ?_
          refine RW.q 4 rfl rfl (by kernel_rfl) (Sub.refl _) (Qt.move rfl) ?_
          refine RW.q 5 rfl rfl (by kernel_rfl) (Sub.refl _) (Qt.add (r := ((L1.length + 1 : Nat) : Int)) rfl rfl (by rw [wr64 (by omega) (by have := hkm.1; omega)]; omega)) ?_
          refine RW.q 6 rfl rfl (by kernel_rfl) (Sub.refl _) (Qt.index (L1.length + 1) (e := 95) (sz := 1) (by kernel_rfl) rfl rfl rfl (by simp)) ?_
          refine RW.q 7 rfl rfl (by kernel_rfl) (Sub.refl _) (Qt.load (v := pV (LT.nd h' rq).p) (by kernel_rfl) rfl (by simp)) ?_
          refine RW.q 8 rfl rfl (by kernel_rfl) (Sub.refl _) (Qt.nilCheck rfl) ?_
          refine RW.q 9 rfl rfl (by kernel_rfl) (Sub.refl _) (Qt.fieldAddr0 (by kernel_rfl) rfl) ?_
          first | refine RW.q 10 rfl rfl (by kernel_rfl) (Sub.refl _) (Qt.load (by kernel_rfl) rfl rfl) ?_ | refine RW.q 10 rfl rfl (by kernel_rfl) (Sub.refl _) (Qt.load (by kernel_rfl) rfl (map_at _ _ _ (by omega))) ?_ | refine RW.q 10 rfl rfl (by kernel_rfl) (Sub.refl _) (Qt.load (by kernel_rfl) rfl (flat_cell0 _ _ _ (by intros; rfl) _ (by omega) (by rfl))) ?_ | refine RW.q 10 rfl rfl (by kernel_rfl) (Sub.refl _) (Qt.load (by kernel_rfl) rfl (flat_cell _ _ _ (by intros; rfl) _ _ (by omega) (by rfl))) ?_ | refine RW.q 10 rfl rfl (by kernel_rfl) (Sub.refl _) (Qt.load (by kernel_rfl) rfl (bytes_at _ _ (by omega))) ?_
          refine RW.q 11 rfl rfl (by kernel_rfl) (Sub.refl _) (Qt.len (e := 9) (sz := 1) (by kernel_rfl) rfl) ?_
          refine RW.q 12 rfl rfl (by kernel_rfl) (Sub.refl _) (Qt.move rfl) ?_
          refine RW.q 13 rfl rfl (by kernel_rfl) (Sub.refl _) (Qt.nilCheck rfl) ?_
          refine RW.q 14 rfl rfl (by kernel_rfl) (Sub.refl _) (Qt.fieldAddr0 (by kernel_rfl) rfl) ?_
          first | refine RW.q 15 rfl rfl (by kernel_rfl) (Sub.refl _) (Qt.loadAgg [_] (by kernel_rfl) rfl ⟨rfl, trivial⟩) ?_ | refine RW.q 15 rfl rfl (by kernel_rfl) (Sub.refl _) (Qt.loadAgg [_] (by kernel_rfl) rfl (by exact rdl_flat _ _ _ (by intros; rfl) _ (by omega))) ?_
          refine RW.one 16 (by kernel_rfl) ?_
          refine RO.e rfl rfl (Ef.call (Bt.least B o (by omega)) Try.func80 rfl rfl rfl ?_)
          rintro _ _ ⟨rfl, rfl⟩
          try simp only [List.cons_append, List.nil_append]
          refine ⟨Sub.any, ?_⟩
          refine RW.q 17 rfl rfl (by kernel_rfl) (Sub.refl _) (Qt.gtr rfl rfl) ?_
          refine RW.q 18 rfl rfl (by kernel_rfl) (Sub.refl _) (Qt.assign rfl) ?_
          refine RW.done (by rfl) ?_
          simp only [List.drop_succ_cons, List.drop_zero, List.drop_nil]
          refine LW.done ?_
          refine T.condP rfl (fun hbig2 => ?_) (fun hbig2 => ?_)
          · skip
            refine T.conv (l' := openA h' (LT.nd h' rq) (LT.ksL h' rq) ++ cxA (Cx.top : Cx h' h') (LT.nd h' rq).p :: ndX y bk bv bc (((L1 ++ [q]) ++ rq :: M2).map fun k => (LT.nd h' k).p) (sepL ((L1 ++ [q]).map (treeA h')) :: sepL (M2.map (treeA h')) :: cxA c y.p :: trB g o r cnt :: F)) (fun w ho => ho.map fun k K => cut_oneR hka hva hca (Sub.any k K)) ?_
            simp only [openA, ndX, List.cons_append, List.nil_append]
            refine T.seq ?_
            refine T.region ?_
            refine LW.q rfl (Qt.move rfl) ?_
            refine LW.q rfl (Qt.nilCheck rfl) ?_
            refine LW.q rfl (Qt.fieldAddr (off := 2) (by kernel_rfl) rfl) ?_
            first | refine LW.q rfl (Qt.load (by kernel_rfl) rfl rfl) ?_ | refine LW.q rfl (Qt.load (by kernel_rfl) rfl (map_at _ _ _ (by omega))) ?_ | refine LW.q rfl (Qt.load (by kernel_rfl) rfl (flat_cell0 _ _ _ (by intros; rfl) _ (by omega) (by rfl))) ?_ | refine LW.q rfl (Qt.load (by kernel_rfl) rfl (flat_cell _ _ _ (by intros; rfl) _ _ (by omega) (by rfl))) ?_ | refine LW.q rfl (Qt.load (by kernel_rfl) rfl (bytes_at _ _ (by omega))) ?_
            refine LW.q rfl (Qt.move rfl) ?_
            refine LW.q rfl (Qt.add (r := ((L1.length + 1 : Nat) : Int)) rfl rfl (by rw [wr64 (by omega) (by have := hkm.1; omega)]; omega)) ?_
            refine LW.q rfl (Qt.index (L1.length + 1) (e := 95) (sz := 1) (by kernel_rfl) rfl rfl rfl (by simp)) ?_
            refine LW.q rfl (Qt.load (v := pV (LT.nd h' rq).p) (by kernel_rfl) rfl (by simp)) ?_
            refine LW.q rfl (Qt.assign rfl) ?_
            refine LW.done ?_
            refine T.seq ?_
            refine T.block ?_
            refine T.loop (fun mz fz lz => ∃ (f0 : Fr) (h2 : Nat) (z : Nd) (zs : List (LK h2)) (c2 : Cx h' h2), (c2.plug (LT.mk h2 z zs) = rq ∧ c2.ok o (o - 1) ∧ okN o (o - 1) h2 (LT.mk h2 z zs) ∧ c2.lf = []) ∧ mz = h2 ∧ fz = (upd (upd (upd (upd f0 0 (pV g)) 1 (pV y.p)) 6 (.int .i64 (spot y.ks key))) 12 (pV z.p)) ∧ lz = openA h2 z zs ++ cxA c2 z.p :: ndX y bk bv bc (((L1 ++ [q]) ++ rq :: M2).map fun k => (LT.nd h' k).p) (sepL ((L1 ++ [q]).map (treeA h')) :: sepL (M2.map (treeA h')) :: cxA c y.p :: trB g o r cnt :: F)) ?_ ?_
            · refine ⟨_, _, ⟨_, h', LT.nd h' rq, LT.ksL h' rq, .top, ⟨by rw [LT.eta]; rfl, trivial, by rw [LT.eta]; exact hkrq, rfl⟩, rfl, (updS rfl (updS rfl (updS rfl (updS rfl rfl)))), rfl⟩, Sub.any⟩
            · skip
              rintro mz fz lz ⟨f0, h2, z, zs, c2, ⟨hzp, hzc, hzk, hzr⟩, hmz, rfl, rfl⟩
              subst mz
              try simp only [List.cons_append, List.nil_append]
              have hzm := okN_mk.1 hzk
              refine T.own fun w1 ho1 => ?_
              have hzpk := (ho1.slice_at (p := z.ka) (m := z.kv.length) (c := z.kc) (k := z.kv.length)).2.1
              have hzpv := (ho1.slice_at (p := z.va) (m := z.kv.length) (c := z.vc) (k := z.kv.length)).2.1
              have hzpc := (ho1.slice_at (p := z.ca) (m := (zs.map fun q => (LK.nd h2 q).p).length) (c := z.cc) (k := (zs.map fun q => (LK.nd h2 q).p).length)).2.1
              clear ho1
              refine T.seq ?_
              refine T.seq ?_
              refine T.region ?_
              refine LW.q rfl (Qt.move rfl) ?_
              refine LW.e rfl (Ef.call (Bt.leaf B z (zs.map fun q => (LK.nd h2 q).p).length) Try.func45 rfl rfl rfl ?_)
              rintro _ _ ⟨rfl, rfl⟩
              try simp only [List.cons_append, List.nil_append]
              first | refine LW.q rfl (Qt.notP rfl) ?_ | refine LW.q rfl (Qt.notB rfl) ?_
              refine LW.done ?_
              refine T.condP rfl (fun hnz => ?_) (fun hnz => ?_)
              · skip
                obtain ⟨h3, rfl⟩ : ∃ h3, h2 = h3 + 1 := by cases h2 with | zero => exact absurd (by have : zs = [] := (by cases zs with | nil => rfl | cons e _ => exact e.elim); rw [this]; rfl) hnz | succ h3 => exact ⟨h3, rfl⟩
                have hzl := hzm.2.2.1.resolve_left (by omega)
                obtain ⟨Zs, lz, rfl⟩ : ∃ (Zs : List (LT h3)) (lz : LT h3), zs = [] ++ lz :: Zs := by cases zs with | nil => simp at hzl | cons a b => exact ⟨b, a, rfl⟩
                obtain ⟨b0, o0, hzca, hc0⟩ := (RdV.cs (B := B) (x := z) (ps := ([] ++ lz :: Zs).map fun q => (LT.nd h3 q).p) hzpc).at (by simp)
                obtain ⟨hd1, hd2, hd3⟩ := first_down hzk hzc hzr
                refine T.conv (l' := ndB z (([] ++ lz :: Zs).map fun q => (LT.nd h3 q).p).length :: ndK z :: ndV z :: ndC z (([] ++ lz :: Zs).map fun q => (LT.nd h3 q).p) :: sepL (([] ++ lz :: Zs).map (treeA h3)) :: cxA c2 z.p :: ndX y bk bv bc (((L1 ++ [q]) ++ rq :: M2).map fun k => (LT.nd h' k).p) (sepL ((L1 ++ [q]).map (treeA h')) :: sepL (M2.map (treeA h')) :: cxA c y.p :: trB g o r cnt :: F)) (fun w ho => ho) ?_
                refine T.skip ?_
                refine T.block ?_
                refine T.region ?_
                refine LW.q rfl (Qt.move rfl) ?_
                refine LW.q rfl (Qt.nilCheck rfl) ?_
                refine LW.q rfl (Qt.fieldAddr (off := 2) (by kernel_rfl) rfl) ?_
                refine LW.q rfl (Qt.load (v := .slice (some ⟨b0, o0, none⟩) (([] ++ lz :: Zs).map fun q => (LT.nd h3 q).p).length z.cc) (by kernel_rfl) rfl (by rw [← hzca]; rfl)) ?_
                refine LW.q rfl (Qt.index 0 (e := 95) (sz := 1) (by kernel_rfl) rfl rfl rfl (by simp)) ?_
                refine LW.q rfl (Qt.loadW (v := pV (LT.nd h3 lz).p) (by kernel_rfl) rfl (fun w ho => by have := hc0 0 (by simp) w (ho.map Sub.any); simpa using this)) ?_
                refine LW.q rfl (Qt.assign rfl) ?_
                refine LW.done ?_
                refine ⟨_, ?_, _, ⟨_, h3, LT.nd h3 lz, LT.ksL h3 lz, .down c2 z [] Zs, ⟨by rw [LT.eta]; exact hzp, hd1, hd3, hd2⟩, rfl, (updS rfl (updS rfl (updS rfl (updS rfl rfl)))), rfl⟩, (fun k K => cut_lower (Sub.any k K))⟩
                first | omega | (simp; omega)
              · skip
                obtain rfl : h2 = 0 := by rcases hzm.2.2.1 with e | e; exact e; simp at hnz; rw [hnz] at e; simp at e
                obtain ⟨e, zv, hze⟩ : ∃ e zv, z.kv = e :: zv := by cases hq : z.kv with | nil => have := hzm.2.1; rw [hq] at this; simp at this; omega | cons a b => exact ⟨a, b, rfl⟩
                have hzl : z.kv.length = zv.length + 1 := by rw [hze]; simp
                have hzb := hzm.1
                obtain ⟨b1, o1, hzka, hc1⟩ := (RdV.ks (B := B) hzpk).at (by omega)
                obtain ⟨b2, o2, hzva, hc2⟩ := (RdV.vs (B := B) hzpv).at (by omega)
                refine T.exit ?_
                refine T.seq ?_
                refine T.draw 24 ([xB y bk bv bc (((L1 ++ [q]) ++ rq :: M2).map fun k => (LT.nd h' k).p).length, ndB z (zs.map fun q => (LK.nd 0 q).p).length, ndK z, ndV z]) (by kernel_rfl) (Nat.le_of_ble_eq_true rfl) (by kernel_rfl) ?_
                refine RW.q 0 rfl rfl (by kernel_rfl) Sub.any (Qt.move rfl) ?_
                refine RW.q 1 rfl rfl (by kernel_rfl) Sub.any (Qt.nilCheck rfl) ?_
                refine RW.q 2 rfl rfl (by kernel_rfl) Sub.any (Qt.fieldAddr0 (by kernel_rfl) rfl) ?_
                first | refine RW.q 3 rfl rfl (by kernel_rfl) Sub.any (Qt.load (by kernel_rfl) rfl rfl) ?_ | refine RW.q 3 rfl rfl (by kernel_rfl) Sub.any (Qt.load (by kernel_rfl) rfl (map_at _ _ _ (by omega))) ?_ | refine RW.q 3 rfl rfl (by kernel_rfl) Sub.any (Qt.load (by kernel_rfl) rfl (flat_cell0 _ _ _ (by intros; rfl) _ (by omega) (by rfl))) ?_ | refine RW.q 3 rfl rfl (by kernel_rfl) Sub.any (Qt.load (by kernel_rfl) rfl (flat_cell _ _ _ (by intros; rfl) _ _ (by omega) (by rfl))) ?_ | refine RW.q 3 rfl rfl (by kernel_rfl) Sub.any (Qt.load (by kernel_rfl) rfl (bytes_at _ _ (by omega))) ?_
                refine RW.q 4 rfl rfl (by kernel_rfl) Sub.any (Qt.move rfl) ?_
                refine RW.q 5 rfl rfl (by kernel_rfl) Sub.any (Qt.move rfl) ?_
                refine RW.q 6 rfl rfl (by kernel_rfl) Sub.any (Qt.nilCheck rfl) ?_
                refine RW.q 7 rfl rfl (by kernel_rfl) Sub.any (Qt.fieldAddr (off := 1) (by kernel_rfl) rfl) ?_
                first | refine RW.q 8 rfl rfl (by kernel_rfl) Sub.any (Qt.load (by kernel_rfl) rfl rfl) ?_ | refine RW.q 8 rfl rfl (by kernel_rfl) Sub.any (Qt.load (by kernel_rfl) rfl (map_at _ _ _ (by omega))) ?_ | refine RW.q 8 rfl rfl (by kernel_rfl) Sub.any (Qt.load (by kernel_rfl) rfl (flat_cell0 _ _ _ (by intros; rfl) _ (by omega) (by rfl))) ?_ | refine RW.q 8 rfl rfl (by kernel_rfl) Sub.any (Qt.load (by kernel_rfl) rfl (flat_cell _ _ _ (by intros; rfl) _ _ (by omega) (by rfl))) ?_ | refine RW.q 8 rfl rfl (by kernel_rfl) Sub.any (Qt.load (by kernel_rfl) rfl (bytes_at _ _ (by omega))) ?_
                refine RW.q 9 rfl rfl (by kernel_rfl) Sub.any (Qt.move rfl) ?_
                refine RW.q 10 rfl rfl (by kernel_rfl) Sub.any (Qt.move rfl) ?_
                refine RW.q 11 rfl rfl (by kernel_rfl) Sub.any (Qt.nilCheck rfl) ?_
                refine RW.q 12 rfl rfl (by kernel_rfl) Sub.any (Qt.fieldAddr0 (by kernel_rfl) rfl) ?_
                refine RW.q 13 rfl rfl (by kernel_rfl) Sub.any (Qt.load (v := .slice (some ⟨b1, o1, none⟩) z.kv.length z.kc) (by kernel_rfl) rfl (by rw [← hzka]; rfl)) ?_
                refine RW.q 14 rfl rfl (by kernel_rfl) Sub.any (Qt.index 0 (e := 9) (sz := 1) (by kernel_rfl) rfl rfl rfl (by omega)) ?_
                refine RW.q 15 rfl rfl (by kernel_rfl) Sub.any (Qt.loadW (v := kT e.1) (by kernel_rfl) rfl (fun w ho => by have := hc1 0 (by simp; omega) w (ho.map Sub.any); simpa [hze] using this)) ?_
                refine RW.q 16 rfl rfl (by kernel_rfl) Sub.any (Qt.move rfl) ?_
                refine RW.q 17 rfl rfl (by kernel_rfl) Sub.any (Qt.nilCheck rfl) ?_
                refine RW.q 18 rfl rfl (by kernel_rfl) Sub.any (Qt.fieldAddr (off := 1) (by kernel_rfl) rfl) ?_
                refine RW.q 19 rfl rfl (by kernel_rfl) Sub.any (Qt.load (v := .slice (some ⟨b2, o2, none⟩) z.kv.length z.vc) (by kernel_rfl) rfl (by rw [← hzva]; rfl)) ?_
                refine RW.q 20 rfl rfl (by kernel_rfl) Sub.any (Qt.index 0 (e := 2) (sz := 1) (by kernel_rfl) rfl rfl rfl (by omega)) ?_
                refine RW.q 21 rfl rfl (by kernel_rfl) Sub.any (Qt.loadW (v := iV e.2) (by kernel_rfl) rfl (fun w ho => by have := hc2 0 (by simp; omega) w (ho.map Sub.any); simpa [hze] using this)) ?_
                refine RW.q 22 rfl rfl (by kernel_rfl) Sub.any (Qt.index (spot y.ks key) (e := 9) (sz := 1) (by kernel_rfl) rfl rfl rfl hil) ?_
                refine RW.one 23 (by kernel_rfl) ?_
                refine RO.r0 rfl rfl (by kernel_rfl) (Ef.store1 (by kernel_rfl) rfl rfl rfl (by first | (simp; done) | (simp; omega)) ?_)
                try simp only [List.set_cons_zero, List.set_cons_succ]
                refine RW.done (by rfl) ?_
                simp only [List.drop_succ_cons, List.drop_zero, List.drop_nil]
                refine LW.q rfl (Qt.index (spot y.ks key) (e := 2) (sz := 1) (by kernel_rfl) rfl rfl rfl hil) ?_
                refine LW.e0 rfl (Ef.store1 (by kernel_rfl) rfl rfl rfl (by first | (simp; done) | (simp; omega)) ?_)
                try simp only [List.set_cons_zero, List.set_cons_succ]
                refine LW.done ?_
                refine T.drawAll 16 (by kernel_rfl) (Nat.le_of_ble_eq_true rfl) (by kernel_rfl) ?_
                refine RW.q 0 rfl rfl (by kernel_rfl) (Sub.refl _) (Qt.move rfl) ?_
                refine RW.q 1 rfl rfl (by kernel_rfl) (Sub.refl _) (Qt.nilCheck rfl) ?_
                refine RW.q 2 rfl rfl (by kernel_rfl) (Sub.refl _) (Qt.fieldAddr0 (by kernel_rfl) rfl) ?_
                first | refine RW.q 3 rfl rfl (by kernel_rfl) (Sub.refl _) (Qt.load (by kernel_rfl) rfl rfl) ?_ | refine RW.q 3 rfl rfl (by kernel_rfl) (Sub.refl _) (Qt.load (by kernel_rfl) rfl (map_at _ _ _ (by omega))) ?_ | refine RW.q 3 rfl rfl (by kernel_rfl) (Sub.refl _) (Qt.load (by kernel_rfl) rfl (flat_cell0 _ _ _ (by intros; rfl) _ (by omega) (by rfl))) ?_ | refine RW.q 3 rfl rfl (by kernel_rfl) (Sub.refl _) (Qt.load (by kernel_rfl) rfl (flat_cell _ _ _ (by intros; rfl) _ _ (by omega) (by rfl))) ?_ | refine RW.q 3 rfl rfl (by kernel_rfl) (Sub.refl _) (Qt.load (by kernel_rfl) rfl (bytes_at _ _ (by omega))) ?_
                refine RW.q 4 rfl rfl (by kernel_rfl) (Sub.refl _) (Qt.move rfl) ?_
                refine RW.q 5 rfl rfl (by kernel_rfl) (Sub.refl _) (Qt.index (spot y.ks key) (e := 9) (sz := 1) (by kernel_rfl) rfl rfl rfl hil) ?_
                refine RW.q 6 rfl rfl (by kernel_rfl) (Sub.refl _) (Qt.load (v := kT e.1) (by kernel_rfl) rfl (by simp [hil])) ?_
                refine RW.q 7 rfl rfl (by kernel_rfl) (Sub.refl _) (Qt.move rfl) ?_
                refine RW.q 8 rfl rfl (by kernel_rfl) (Sub.refl _) (Qt.nilCheck rfl) ?_
                refine RW.q 9 rfl rfl (by kernel_rfl) (Sub.refl _) (Qt.fieldAddr (off := 2) (by kernel_rfl) rfl) ?_
                first | refine RW.q 10 rfl rfl (by kernel_rfl) (Sub.refl _) (Qt.load (by kernel_rfl) rfl rfl) ?_ | refine RW.q 10 rfl rfl (by kernel_rfl) (Sub.refl _) (Qt.load (by kernel_rfl) rfl (map_at _ _ _ (by omega))) ?_ | refine RW.q 10 rfl rfl (by kernel_rfl) (Sub.refl _) (Qt.load (by kernel_rfl) rfl (flat_cell0 _ _ _ (by intros; rfl) _ (by omega) (by rfl))) ?_ | refine RW.q 10 rfl rfl (by kernel_rfl) (Sub.refl _) (Qt.load (by kernel_rfl) rfl (flat_cell _ _ _ (by intros; rfl) _ _ (by omega) (by rfl))) ?_ | refine RW.q 10 rfl rfl (by kernel_rfl) (Sub.refl _) (Qt.load (by kernel_rfl) rfl (bytes_at _ _ (by omega))) ?_
                refine RW.q 11 rfl rfl (by kernel_rfl) (Sub.refl _) (Qt.move rfl) ?_
                refine RW.q 12 rfl rfl (by kernel_rfl) (Sub.refl _) (Qt.add (r := ((L1.length + 1 : Nat) : Int)) rfl rfl (by rw [wr64 (by omega) (by have := hkm.1; omega)]; omega)) ?_
                refine RW.q 13 rfl rfl (by kernel_rfl) (Sub.refl _) (Qt.index (L1.length + 1) (e := 95) (sz := 1) (by kernel_rfl) rfl rfl rfl (by simp)) ?_
                refine RW.q 14 rfl rfl (by kernel_rfl) (Sub.refl _) (Qt.load (v := pV (LT.nd h' rq).p) (by kernel_rfl) rfl (by simp)) ?_
                refine RW.q 15 rfl rfl (by kernel_rfl) (Sub.refl _) (Qt.assign rfl) ?_
                refine RW.done (by rfl) ?_
                simp only [List.drop_succ_cons, List.drop_zero, List.drop_nil]
                refine LW.q rfl (Qt.assign rfl) ?_
                refine LW.done ?_
                have hql := cut_first hzp hzc hzr hze
                refine ⟨_, ?_, _, ⟨_, h', LT.nd h' rq, LT.ksL h' rq, .down c ⟨y.p, y.kv.set (spot y.ks key) e, some ⟨bk, 0, none⟩, y.kc, some ⟨bv, 0, none⟩, y.vc, some ⟨bc, 0, none⟩, y.cc⟩ (L1 ++ [q]) M2, e.1, e.2, ⟨cut_ok (by rw [eR]; exact set_ok (hk.mono (by omega)) (by simp)) hc, by rw [LT.eta]; exact ⟨hkrq.1, (show o - 1 + 1 ≤ _ by omega), hkrq.2.2.1, hkrq.2.2.2⟩, by rw [LT.eta]; rw [← eR, toL_mid (by simp only [List.length_append, List.length_singleton]; omega)] at hut; exact up_mid hut, by rw [LT.eta, hql]; simp, by rw [LT.eta]; exact cut_succ (p := p) hl2 (by rw [hl1]; exact hp) (by rw [hl1]) hql hut (by rw [hpk]; exact hGt), by rw [LT.eta, ← hpp]; exact Cx.plug_p (c := c) (t := LT.mk (h' + 1) ⟨y.p, y.kv.set (spot y.ks key) e, some ⟨bk, 0, none⟩, y.kc, some ⟨bv, 0, none⟩, y.vc, some ⟨bc, 0, none⟩, y.cc⟩ ((L1 ++ [q]) ++ rq :: M2)) (t' := LT.mk (h' + 1) y (L1 ++ q :: rq :: M2)) rfl⟩, rfl, (updS rfl (updS rfl (updS rfl rfl))), rfl⟩, (fun k K => cut_set_has (p := p) (e := e) hka hva hca hzp (by simp only [nodeL, List.cons_append, List.nil_append]; exact Sub.any k K))⟩
                first | omega | (simp; omega)
          · skip
            have hrqe : (LT.nd h' rq).kv.length = o - 1 := by have := hkrq.2.1; omega
            refine T.conv (l' := treeA (h' + 1) (LT.mk (h' + 1) y (L1 ++ q :: rq :: M2)) :: cxA c y.p :: trB g o r cnt :: F) (fun w ho => ho.map fun k K => Has.shutx2 hka hva hca (Sub.any k K)) ?_
            refine T.region ?_
            refine LW.q rfl (Qt.move rfl) ?_
            refine LW.q rfl (Qt.move rfl) ?_
            refine LW.q rfl (Qt.move rfl) ?_
            refine LW.e rfl (Ef.call ((by have := Bt.mergeT B g o (c.lo o 0 + 1) h' y L1 M2 q rq ho ho2 hk hqe hrqe; rw [hl1] at this; exact this)) Try.func81 rfl rfl rfl ?_)
            rintro _ _ ⟨x', cc, s, e1, e2, e3, e4, e5, e6, rfl, rfl⟩
            try simp only [List.cons_append, List.nil_append]
            rw [← e1]
            obtain rfl : s = p := Option.some.inj (e2.symm.trans hp)
            have hcN := okN_false.1 e4
            have htn := kids_merge2 (x' := x') (M1 := L1) (M2 := M2) (a := q) (b := rq) (c := cc) (by rw [hl1]; exact hp) (by rw [e3, hl1]) e6
            have hmo := merge_ok (M1 := L1) (M2 := M2) (c := cc) hk (by rw [e3, hl1]) e4
            have hl' : L1.length + M2.length = x'.kv.length := by have := (okK.1 hmo).2.2.1; simp at this; omega
            have hun : Up (toL (h' + 1) (LT.mk (h' + 1) x' (L1 ++ cc :: M2))) := by rw [htn]; exact hut
            have hmc : (key, s.2) ∈ toL h' cc := by rw [e6, ← hpk]; simp
            refine LW.q rfl (Qt.assign rfl) ?_
            refine LW.done ?_
            refine ⟨_, ?_, _, ⟨_, h', LT.nd h' cc, LT.ksL h' cc, .down c x' L1 M2, key, s.2, ⟨cut_ok hmo hc, by rw [LT.eta]; exact ⟨hcN.1, (show o - 1 + 1 ≤ _ by omega), hcN.2.2.1, hcN.2.2.2⟩, by rw [LT.eta]; rw [toL_mid hl'] at hun; exact up_mid hun, by rw [LT.eta]; exact hmc, by rw [LT.eta]; exact cut_down hl' hun hmc (by rw [htn]; exact hGt), by rw [LT.eta, ← hpp]; exact Cx.plug_p (c := c) (t := LT.mk (h' + 1) x' (L1 ++ cc :: M2)) (t' := LT.mk (h' + 1) y (L1 ++ q :: rq :: M2)) e1⟩, rfl, (updS rfl (updS rfl (updS rfl rfl))), rfl⟩, (fun k K => by have K2 := Has.open1 (x := x') (L1 := L1) (q := cc) (L2 := M2) (m := cxA c x'.p :: trB g o r cnt :: F) (Sub.any k K); exact Has.downP (m := trB g o r cnt :: F) (by simp only [nodeL, List.cons_append, List.nil_append]; exact K2))⟩
            first | omega | (simp; omega)
end Go.Proofs.Ytefognjcognknaa

/- btree: Cut, copied. Conditions: sizes. -/
set_option linter.unusedSimpArgs false
set_option linter.unusedVariables false
namespace Go.Proofs.Ytefognjcognknaa
open Go.RowKit
theorem cut_one_root {g o H c : Nat} {x : Nd} {ks : List (LK H)} {L : List KV} {F : List Assn} {k : Piece} (hk : okN o 0 H (LT.mk H x ks)) (hl : H = 0 ∨ 1 ≤ x.kv.length) (hL : toL H (LT.mk H x ks) = L) (hu : Up L) (ho : 2 ≤ o) (ho2 : o ≤ 64) (hc : c = L.length) (K : Has (openA H x ks ++ trB g o x.p c :: F) k) : Has (btA g o L :: F) k := by
  subst hc
  have hk' := okN_mk.1 hk
  refine Has.bt_in (t := LT.mk H x ks) (okN_rm.1 (okN_mk.2 ⟨hk'.1, ?_, hk'.2.2⟩)) hL hu ho ho2 ?_
  · rcases hl with e | e
    · subst e; exact Nat.zero_le _
    · by_cases hH : H = 0
      · subst hH; exact Nat.zero_le _
      · simp [rm, hH]; omega
  · rw [LT.nd_mk]
    exact Has.swap (Has.closeM K)
theorem cut_new_root {g o h c : Nat} {x : Nd} {q : LT h} {L : List KV} {F : List Assn} {k : Piece} (hk : okN o 0 (h + 1) (LT.mk (h + 1) x [q])) (hx : x.kv = []) (hL : toL (h + 1) (LT.mk (h + 1) x [q]) = L) (hu : Up L) (ho : 2 ≤ o) (ho2 : o ≤ 64) (hc : c = L.length) (K : Has (sepL ([q].map (treeA h)) :: trB g o (LT.nd h q).p c :: F) k) : Has (btA g o L :: F) k := by
  subst hc
  have hk' := okK.1 hk
  have hq := okN_false.1 (hk'.2.2.2 q (List.mem_cons_self ..))
  have hL' : toL h q = L := by
    rw [← hL]
    show toL h q = inter [toL h q] x.kv
    rw [hx]; rfl
  refine Has.bt_in (t := q) (okN_rm.1 (hq.mono ?_)) hL' hu ho ho2 (Has.swap ?_)
  · unfold rm; split <;> omega
  · exact Has.open_sepL (l := [treeA h q]) K
set_option maxHeartbeats 4000000 in
theorem Bt.Cut (B : Base) (g o : Nat) (L : List KV) (key : Str) (hb : L.length < 2 ^ 39) : Fn Try.prog B 19 #[pV g, kT key] [btA g o L] (fun u l => u = .bool (getL L key).isSome ∧ l = [btA g o (cutL key L)]) := by
 refine Fn.bt fun H t hok hL hu ho ho2 => ?_
 have hcl : (getL L key).isSome = true → (cutL key L).length + 1 = L.length := cutL_len hu
 refine Fn.enter2 58 Try.func19 rfl rfl (Nat.le_of_ble_eq_true rfl) (fun F => ?_)
 try simp only [List.cons_append, List.nil_append]
 refine T.seq ?_
 refine T.region ?_
 refine LW.q rfl (Qt.assign rfl) ?_
 refine LW.done ?_
 refine T.seq ?_
 refine T.region ?_
 refine LW.q rfl (Qt.move rfl) ?_
 refine LW.q rfl (Qt.move rfl) ?_
 refine LW.e rfl (Ef.call (Bt.get B g o L.length H t key hok (by rw [hL]; exact hu) (by rw [hL]; omega)) Try.func25 rfl rfl rfl ?_)
 rintro _ _ ⟨rfl, rfl⟩
 try simp only [List.cons_append, List.nil_append]
 refine LW.q rfl (Qt.move rfl) ?_
 refine LW.q rfl (Qt.extr rfl rfl) ?_
 refine LW.q rfl (Qt.extr rfl rfl) ?_
 refine LW.q rfl (Qt.assign rfl) ?_
 refine LW.q rfl (Qt.assign rfl) ?_
 refine LW.done ?_
 refine T.seq ?_
 refine T.seq ?_
 refine T.region ?_
 refine LW.q rfl (Qt.move rfl) ?_
 first | refine LW.q rfl (Qt.notP rfl) ?_ | refine LW.q rfl (Qt.notB rfl) ?_
 refine LW.done ?_
 refine T.cond rfl (fun hs => ?_) (fun hs => ?_)
 ·
  rw [hL] at hs
  have hs0 : (getL L key).isSome = false := by simpa using hs
  refine T.seq ?_
  refine T.region ?_
  refine LW.q rfl (Qt.assign rfl) ?_
  refine LW.done ?_
  refine T.ret ?_
  exact ⟨.inl rfl, _, _, res [_] rfl ⟨rvT rfl, trivial⟩, ⟨by rw [hs0]; rfl, rfl⟩, (fun k K => by rw [cutL_no hs0]; exact Has.bt_in (m := F) hok hL hu ho ho2 (Sub.any k K))⟩
 ·
  rw [hL] at hs
  have hs0 : (getL L key).isSome = true := by simpa using hs
  obtain ⟨v, hv⟩ := getL_isSome.1 hs0
  have hcl1 := hcl hs0
  refine T.skip ?_
  refine T.seq ?_
  refine T.region ?_
  refine LW.q rfl (Qt.move rfl) ?_
  refine LW.q rfl (Qt.move rfl) ?_
  refine LW.q rfl (Qt.nilCheck rfl) ?_
  refine LW.q rfl (Qt.fieldAddr (off := 1) (by kernel_rfl) rfl) ?_
  first | refine LW.q rfl (Qt.load (by kernel_rfl) rfl rfl) ?_ | refine LW.q rfl (Qt.load (by kernel_rfl) rfl (map_at _ _ _ (by omega))) ?_ | refine LW.q rfl (Qt.load (by kernel_rfl) rfl (flat_cell0 _ _ _ (by intros; rfl) _ (by omega) (by rfl))) ?_ | refine LW.q rfl (Qt.load (by kernel_rfl) rfl (flat_cell _ _ _ (by intros; rfl) _ _ (by omega) (by rfl))) ?_ | refine LW.q rfl (Qt.load (by kernel_rfl) rfl (bytes_at _ _ (by omega))) ?_
  refine LW.q rfl (Qt.move rfl) ?_
  refine LW.e rfl (Ef.call (Bt.cut B g o (LT.nd H t).p L.length H t key v ho ho2 hok (by rw [hL]; exact hu) (by rw [hL]; exact hv) (by rw [hL]; exact hb)) Try.func48 rfl rfl rfl ?_)
  rintro _ _ ⟨t', hk', hL', hp', rfl⟩
  try simp only [List.cons_append, List.nil_append]
  rw [← hp']
  obtain ⟨x, ks, rfl⟩ : ∃ x ks, t' = LT.mk H x ks := ⟨_, _, (LT.eta H t').symm⟩
  rw [LT.nd_mk]
  rw [hL] at hL'
  refine LW.conv (l' := openA H x ks ++ trB g o x.p L.length :: F) (fun w ho => ho.map fun k K => by have K2 := Has.openM (m := trB g o x.p L.length :: F) (Has.swap K); exact K2) ?_
  simp only [openA, List.cons_append, List.nil_append]
  have hkm := okN_mk.1 hk'
  refine LW.own fun w0 ho0 => ?_
  have hpc := (ho0.slice_at (p := x.ca) (m := (ks.map fun q => (LK.nd H q).p).length) (c := x.cc) (k := (ks.map fun q => (LK.nd H q).p).length)).2.1
  clear ho0
  refine LW.done ?_
  refine T.seq ?_
  refine T.seq ?_
  refine T.region ?_
  refine LW.q rfl (Qt.move rfl) ?_
  refine LW.q rfl (Qt.nilCheck rfl) ?_
  refine LW.q rfl (Qt.fieldAddr (off := 1) (by kernel_rfl) rfl) ?_
  first | refine LW.q rfl (Qt.load (by kernel_rfl) rfl rfl) ?_ | refine LW.q rfl (Qt.load (by kernel_rfl) rfl (map_at _ _ _ (by omega))) ?_ | refine LW.q rfl (Qt.load (by kernel_rfl) rfl (flat_cell0 _ _ _ (by intros; rfl) _ (by omega) (by rfl))) ?_ | refine LW.q rfl (Qt.load (by kernel_rfl) rfl (flat_cell _ _ _ (by intros; rfl) _ _ (by omega) (by rfl))) ?_ | refine LW.q rfl (Qt.load (by kernel_rfl) rfl (bytes_at _ _ (by omega))) ?_
  refine LW.q rfl (Qt.nilCheck rfl) ?_
  refine LW.q rfl (Qt.fieldAddr0 (by kernel_rfl) rfl) ?_
  first | refine LW.q rfl (Qt.load (by kernel_rfl) rfl rfl) ?_ | refine LW.q rfl (Qt.load (by kernel_rfl) rfl (map_at _ _ _ (by omega))) ?_ | refine LW.q rfl (Qt.load (by kernel_rfl) rfl (flat_cell0 _ _ _ (by intros; rfl) _ (by omega) (by rfl))) ?_ | refine LW.q rfl (Qt.load (by kernel_rfl) rfl (flat_cell _ _ _ (by intros; rfl) _ _ (by omega) (by rfl))) ?_ | refine LW.q rfl (Qt.load (by kernel_rfl) rfl (bytes_at _ _ (by omega))) ?_
  refine LW.q rfl (Qt.len (e := 9) (sz := 1) (by kernel_rfl) rfl) ?_
  refine LW.q rfl (Qt.eql rfl rfl) ?_
  refine LW.q rfl (Qt.move rfl) ?_
  refine LW.split (t := 31) rfl (fun h0 => ?_) (fun h0 => ?_)
  ·
   try replace h0 := of_decide_eq_true h0
   refine LW.q rfl (Qt.move rfl) ?_
   refine LW.q rfl (Qt.nilCheck rfl) ?_
   refine LW.q rfl (Qt.fieldAddr (off := 1) (by kernel_rfl) rfl) ?_
   first | refine LW.q rfl (Qt.load (by kernel_rfl) rfl rfl) ?_ | refine LW.q rfl (Qt.load (by kernel_rfl) rfl (map_at _ _ _ (by omega))) ?_ | refine LW.q rfl (Qt.load (by kernel_rfl) rfl (flat_cell0 _ _ _ (by intros; rfl) _ (by omega) (by rfl))) ?_ | refine LW.q rfl (Qt.load (by kernel_rfl) rfl (flat_cell _ _ _ (by intros; rfl) _ _ (by omega) (by rfl))) ?_ | refine LW.q rfl (Qt.load (by kernel_rfl) rfl (bytes_at _ _ (by omega))) ?_
   refine LW.e rfl (Ef.call (Bt.leaf B x (ks.map fun q => (LK.nd H q).p).length) Try.func45 rfl rfl rfl ?_)
   rintro _ _ ⟨rfl, rfl⟩
   try simp only [List.cons_append, List.nil_append]
   first | refine LW.q rfl (Qt.notP rfl) ?_ | refine LW.q rfl (Qt.notB rfl) ?_
   refine LW.q rfl (Qt.pick rfl rfl) ?_
   refine LW.done ?_
   refine T.condP rfl (fun hlf => ?_) (fun hlf => ?_)
   ·
    obtain ⟨h', rfl⟩ : ∃ h', H = h' + 1 := by cases H with | zero => exact absurd (by have : ks = [] := (by cases ks with | nil => rfl | cons e _ => exact e.elim); rw [this]; rfl) hlf | succ h' => exact ⟨h', rfl⟩
    have hx0 : x.kv = [] := List.eq_nil_of_length_eq_zero (by omega)
    obtain ⟨q, rfl⟩ : ∃ q : LT h', ks = [q] := by have e := hkm.2.2.1.resolve_left (by omega); rw [hx0] at e; cases ks with | nil => simp at e | cons a b => cases b with | nil => exact ⟨a, rfl⟩ | cons _ _ => simp at e
    obtain ⟨b0, o0, hca, hc0⟩ := (RdV.cs (B := B) (x := x) (ps := ([q]).map fun q => (LT.nd h' q).p) hpc).at (by simp)
    refine T.conv (l' := ndB x (([q]).map fun q => (LT.nd h' q).p).length :: ndK x :: ndV x :: ndC x (([q]).map fun q => (LT.nd h' q).p) :: sepL (([q]).map (treeA h')) :: trB g o x.p L.length :: F) (fun w ho => ho) ?_
    refine T.region ?_
    refine LW.q rfl (Qt.move rfl) ?_
    refine LW.q rfl (Qt.move rfl) ?_
    refine LW.q rfl (Qt.nilCheck rfl) ?_
    refine LW.q rfl (Qt.fieldAddr (off := 1) (by kernel_rfl) rfl) ?_
    first | refine LW.q rfl (Qt.load (by kernel_rfl) rfl rfl) ?_ | refine LW.q rfl (Qt.load (by kernel_rfl) rfl (map_at _ _ _ (by omega))) ?_ | refine LW.q rfl (Qt.load (by kernel_rfl) rfl (flat_cell0 _ _ _ (by intros; rfl) _ (by omega) (by rfl))) ?_ | refine LW.q rfl (Qt.load (by kernel_rfl) rfl (flat_cell _ _ _ (by intros; rfl) _ _ (by omega) (by rfl))) ?_ | refine LW.q rfl (Qt.load (by kernel_rfl) rfl (bytes_at _ _ (by omega))) ?_
    refine LW.q rfl (Qt.nilCheck rfl) ?_
    refine LW.q rfl (Qt.fieldAddr (off := 2) (by kernel_rfl) rfl) ?_
    refine LW.q rfl (Qt.load (v := .slice (some ⟨b0, o0, none⟩) (([q]).map fun q => (LT.nd h' q).p).length x.cc) (by kernel_rfl) rfl (by rw [← hca]; rfl)) ?_
    refine LW.q rfl (Qt.index 0 (e := 95) (sz := 1) (by kernel_rfl) rfl rfl rfl (by simp)) ?_
    refine LW.q rfl (Qt.loadW (v := pV (LT.nd h' q).p) (by kernel_rfl) rfl (fun w ho => by have := hc0 0 (by simp) w (ho.map Sub.any); simpa using this)) ?_
    refine LW.q rfl (Qt.nilCheck rfl) ?_
    refine LW.q rfl (Qt.fieldAddr (off := 1) (by kernel_rfl) rfl) ?_
    refine LW.e0 rfl (Ef.store1 (by kernel_rfl) rfl rfl rfl (by first | (simp; done) | (simp; omega)) ?_)
    try simp only [List.set_cons_zero, List.set_cons_succ]
    refine LW.done ?_
    refine T.seq ?_
    refine T.region ?_
    refine LW.q rfl (Qt.move rfl) ?_
    refine LW.q rfl (Qt.nilCheck rfl) ?_
    refine LW.q rfl (Qt.fieldAddr (off := 2) (by kernel_rfl) rfl) ?_
    first | refine LW.q rfl (Qt.load (by kernel_rfl) rfl rfl) ?_ | refine LW.q rfl (Qt.load (by kernel_rfl) rfl (map_at _ _ _ (by omega))) ?_ | refine LW.q rfl (Qt.load (by kernel_rfl) rfl (flat_cell0 _ _ _ (by intros; rfl) _ (by omega) (by rfl))) ?_ | refine LW.q rfl (Qt.load (by kernel_rfl) rfl (flat_cell _ _ _ (by intros; rfl) _ _ (by omega) (by rfl))) ?_ | refine LW.q rfl (Qt.load (by kernel_rfl) rfl (bytes_at _ _ (by omega))) ?_
    refine LW.q rfl (Qt.sub (r := ((cutL key L).length : Int)) rfl rfl (by rw [wr64 (by omega) (by omega)]; omega)) ?_
    refine LW.q rfl (Qt.nilCheck rfl) ?_
    refine LW.q rfl (Qt.fieldAddr (off := 2) (by kernel_rfl) rfl) ?_
    refine LW.e0 rfl (Ef.store1 (by kernel_rfl) rfl rfl rfl (by first | (simp; done) | (simp; omega)) ?_)
    try simp only [List.set_cons_zero, List.set_cons_succ]
    refine LW.done ?_
    refine T.seq ?_
    refine T.region ?_
    refine LW.q rfl (Qt.assign rfl) ?_
    refine LW.done ?_
    refine T.ret ?_
    exact ⟨.inl rfl, _, _, res [_] rfl ⟨rvT rfl, trivial⟩, ⟨by rw [hs0]; rfl, rfl⟩, (fun k K => cut_new_root (g := g) (F := F) hk' hx0 hL' (cutL_up hu) ho ho2 rfl (Sub.any k K))⟩
   ·
    obtain rfl : H = 0 := by rcases hkm.2.2.1 with e | e; exact e; simp at hlf; rw [hlf] at e; simp at e
    refine T.skip ?_
    refine T.seq ?_
    refine T.region ?_
    refine LW.q rfl (Qt.move rfl) ?_
    refine LW.q rfl (Qt.nilCheck rfl) ?_
    refine LW.q rfl (Qt.fieldAddr (off := 2) (by kernel_rfl) rfl) ?_
    first | refine LW.q rfl (Qt.load (by kernel_rfl) rfl rfl) ?_ | refine LW.q rfl (Qt.load (by kernel_rfl) rfl (map_at _ _ _ (by omega))) ?_ | refine LW.q rfl (Qt.load (by kernel_rfl) rfl (flat_cell0 _ _ _ (by intros; rfl) _ (by omega) (by rfl))) ?_ | refine LW.q rfl (Qt.load (by kernel_rfl) rfl (flat_cell _ _ _ (by intros; rfl) _ _ (by omega) (by rfl))) ?_ | refine LW.q rfl (Qt.load (by kernel_rfl) rfl (bytes_at _ _ (by omega))) ?_
    refine LW.q rfl (Qt.sub (r := ((cutL key L).length : Int)) rfl rfl (by rw [wr64 (by omega) (by omega)]; omega)) ?_
    refine LW.q rfl (Qt.nilCheck rfl) ?_
    refine LW.q rfl (Qt.fieldAddr (off := 2) (by kernel_rfl) rfl) ?_
    refine LW.e0 rfl (Ef.store1 (by kernel_rfl) rfl rfl rfl (by first | (simp; done) | (simp; omega)) ?_)
    try simp only [List.set_cons_zero, List.set_cons_succ]
    refine LW.done ?_
    refine T.seq ?_
    refine T.region ?_
    refine LW.q rfl (Qt.assign rfl) ?_
    refine LW.done ?_
    refine T.ret ?_
    exact ⟨.inl rfl, _, _, res [_] rfl ⟨rvT rfl, trivial⟩, ⟨by rw [hs0]; rfl, rfl⟩, (fun k K => cut_one_root (g := g) (F := F) hk' (.inl rfl) hL' (cutL_up hu) ho ho2 rfl (Sub.any k K))⟩
  ·
   try replace h0 := of_decide_eq_false h0
   refine LW.s rfl ?_
   refine LW.s rfl ?_
   refine LW.s rfl ?_
   refine LW.s rfl ?_
   refine LW.s rfl ?_
   refine LW.s rfl ?_
   refine LW.q rfl (Qt.pick rfl rfl) ?_
   refine LW.done ?_
   first | refine T.condF rfl ?_ | refine T.condPF rfl (by omega) ?_ | refine T.condBF rfl (by omega) ?_
   refine T.skip ?_
   refine T.seq ?_
   refine T.region ?_
   refine LW.q rfl (Qt.move rfl) ?_
   refine LW.q rfl (Qt.nilCheck rfl) ?_
   refine LW.q rfl (Qt.fieldAddr (off := 2) (by kernel_rfl) rfl) ?_
   first | refine LW.q rfl (Qt.load (by kernel_rfl) rfl rfl) ?_ | refine LW.q rfl (Qt.load (by kernel_rfl) rfl (map_at _ _ _ (by omega))) ?_ | refine LW.q rfl (Qt.load (by kernel_rfl) rfl (flat_cell0 _ _ _ (by intros; rfl) _ (by omega) (by rfl))) ?_ | refine LW.q rfl (Qt.load (by kernel_rfl) rfl (flat_cell _ _ _ (by intros; rfl) _ _ (by omega) (by rfl))) ?_ | refine LW.q rfl (Qt.load (by kernel_rfl) rfl (bytes_at _ _ (by omega))) ?_
   refine LW.q rfl (Qt.sub (r := ((cutL key L).length : Int)) rfl rfl (by rw [wr64 (by omega) (by omega)]; omega)) ?_
   refine LW.q rfl (Qt.nilCheck rfl) ?_
   refine LW.q rfl (Qt.fieldAddr (off := 2) (by kernel_rfl) rfl) ?_
   refine LW.e0 rfl (Ef.store1 (by kernel_rfl) rfl rfl rfl (by first | (simp; done) | (simp; omega)) ?_)
   try simp only [List.set_cons_zero, List.set_cons_succ]
   refine LW.done ?_
   refine T.seq ?_
   refine T.region ?_
   refine LW.q rfl (Qt.assign rfl) ?_
   refine LW.done ?_
   refine T.ret ?_
   exact ⟨.inl rfl, _, _, res [_] rfl ⟨rvT rfl, trivial⟩, ⟨by rw [hs0]; rfl, rfl⟩, (fun k K => cut_one_root (g := g) (F := F) hk' (.inr (by omega)) hL' (cutL_up hu) ho ho2 rfl (Sub.any k K))⟩
end Go.Proofs.Ytefognjcognknaa

/- btree: copied. Conditions: sizes. -/
set_option linter.unusedSimpArgs false
set_option linter.unusedVariables false
namespace Go.Proofs.Ytefognjcognknaa
open Go.RowKit
/-- Kids copied say the same. -/
def alikeL (o : Nat) (h : Nat) (a b : List (LK h)) : Prop := b.map (LK.l h) = a.map (LK.l h) ∧ ∀ k ∈ b, LK.ok o h k
theorem copied_end {o h : Nat} {r : Bool} {x : Nd} {ks C : List (LK h)} {y : Nd} (hok : okT o h r (LT.mk h x ks)) (hy : y.kv = x.kv) (hC : alikeL o h ks C) : toL h (LT.mk h y C) = toL h (LT.mk h x ks) ∧ okT o h r (LT.mk h y C) := by
  have hl : C.length = ks.length := by have := congrArg List.length hC.1; simpa using this
  have key : ∀ lo, okN o lo h (LT.mk h x ks) → okN o lo h (LT.mk h y C) := fun lo hk => by
    have a := okN_mk.1 hk
    exact okN_mk.2 ⟨by rw [hy]; exact a.1, by rw [hy]; exact a.2.1, by rw [hy, hl]; exact a.2.2.1, hC.2⟩
  refine ⟨?_, ?_⟩
  · rw [toL_mk, toL_mk, hy]
    cases h with
    | zero => rfl
    | succ h => show inter (C.map (LK.l (h + 1))) x.kv = inter (ks.map (LK.l (h + 1))) x.kv; rw [hC.1]
  · cases r with
    | false => exact okN_false.2 (key _ (okN_false.1 hok))
    | true => exact okN_true.2 (key _ (okN_true.1 hok))
theorem copied_start {h g1 : Nat} {x : Nd} {p1 p2 : Option Addr} {c1 c2 : Nat} {l : List Assn} {k : Piece} (K : Has (blk g1 [.slice p1 x.kv.length c1, .slice p2 x.kv.length c2, .slice none 0 0] 98 :: l) k) : Has (blk g1 [.slice p1 x.kv.length c1, .slice p2 x.kv.length c2, .slice none 0 0] 98 :: row (.slice none 0 0) 95 1 0 ((([] : List (LK h)).map fun q => (LK.nd h q).p).map pV) :: sepL (([] : List (LK h)).map (LK.a h)) :: l) k := Has.cons_imp (fun _ K => Has.rowNil (Has.close_pu (p := True) trivial K)) K
theorem Has.mid_out {α : Type} {A : α → Assn} {L1 L2 : List α} {q : α} {m : List Assn} {k : Piece} (H : Has (sepL ((L1 ++ q :: L2).map A) :: m) k) : Has (A q :: sepL (L1.map A) :: sepL (L2.map A) :: m) k := by
  have H1 := Has.open_sepL H
  rw [List.map_append, List.map_cons, List.append_assoc, List.cons_append] at H1
  refine Has.cons_imp (fun _ K => ?_) (Has.over H1)
  refine Has.close_sepL ?_
  obtain ⟨k1, k2, d, a, b, K1, K2⟩ := Has.split K
  exact Has.join d a b K1 (Has.close_sepL K2)
theorem Has.mid_in {α : Type} {A : α → Assn} {L1 L2 : List α} {q : α} {m : List Assn} {k : Piece} (H : Has (A q :: sepL (L1.map A) :: sepL (L2.map A) :: m) k) : Has (sepL ((L1 ++ q :: L2).map A) :: m) k := by
  refine Has.close_sepL ?_
  rw [List.map_append, List.map_cons, List.append_assoc, List.cons_append]
  refine Has.under (Has.cons_imp (fun _ K => ?_) H)
  obtain ⟨k1, k2, d, a, b, K1, K2⟩ := Has.split (Has.open_sepL K)
  exact Has.join d a b K1 (Has.open_sepL K2)
theorem copied_open {h g i c1 c2 c3 : Nat} {x : Nd} {ks K1 K2 C : List (LK h)} {q : LK h} {p1 p2 p3 : Option Addr} {F : List Assn} {k : Piece} (hks : ks = K1 ++ q :: K2)
    (K : Has (blk g [.slice p1 x.kv.length c1, .slice p2 x.kv.length c2, .slice p3 i c3] 98 :: row (.slice p3 i c3) 95 1 i ((C.map fun q => (LK.nd h q).p).map pV) :: sepL (C.map (LK.a h)) :: row (.slice p1 x.kv.length c1) 9 1 x.kv.length (x.ks.map kT) :: row (.slice p2 x.kv.length c2) 2 1 x.kv.length (x.vs.map iV) :: ndB x (ks.map fun q => (LK.nd h q).p).length :: ndK x :: ndV x :: ndC x (ks.map fun q => (LK.nd h q).p) :: sepL (ks.map (LK.a h)) :: F) k) :
    Has (LK.a h q :: sepL (K1.map (LK.a h)) :: sepL (K2.map (LK.a h)) :: blk g [.slice p1 x.kv.length c1, .slice p2 x.kv.length c2, .slice p3 i c3] 98 :: row (.slice p3 i c3) 95 1 i ((C.map fun q => (LK.nd h q).p).map pV) :: sepL (C.map (LK.a h)) :: row (.slice p1 x.kv.length c1) 9 1 x.kv.length (x.ks.map kT) :: row (.slice p2 x.kv.length c2) 2 1 x.kv.length (x.vs.map iV) :: ndB x (ks.map fun q => (LK.nd h q).p).length :: ndK x :: ndV x :: ndC x (ks.map fun q => (LK.nd h q).p) :: F) k := by
  have K1 : Has (sepL (ks.map (LK.a h)) :: blk g [.slice p1 x.kv.length c1, .slice p2 x.kv.length c2, .slice p3 i c3] 98 :: row (.slice p3 i c3) 95 1 i ((C.map fun q => (LK.nd h q).p).map pV) :: sepL (C.map (LK.a h)) :: row (.slice p1 x.kv.length c1) 9 1 x.kv.length (x.ks.map kT) :: row (.slice p2 x.kv.length c2) 2 1 x.kv.length (x.vs.map iV) :: ndB x (ks.map fun q => (LK.nd h q).p).length :: ndK x :: ndV x :: ndC x (ks.map fun q => (LK.nd h q).p) :: F) k := Sub.any k K
  rw [hks] at K1 ⊢
  exact Has.mid_out K1
theorem copied_step {h g i c1 c2 c4 : Nat} {x : Nd} {ks K1 K2 C : List (LK h)} {q k' : LK h} {p1 p2 p4 : Option Addr} {F : List Assn} {k : Piece} (hks : ks = K1 ++ q :: K2)
    (K : Has (LK.a h q :: sepL (K1.map (LK.a h)) :: sepL (K2.map (LK.a h)) :: LK.a h k' :: sepL (C.map (LK.a h)) :: blk g [.slice p1 x.kv.length c1, .slice p2 x.kv.length c2, .slice p4 (i + 1) c4] 98 :: row (.slice p4 (i + 1) c4) 95 1 (i + 1) ((C.map fun q => (LK.nd h q).p).map pV ++ [pV (LK.nd h k').p]) :: row (.slice p1 x.kv.length c1) 9 1 x.kv.length (x.ks.map kT) :: row (.slice p2 x.kv.length c2) 2 1 x.kv.length (x.vs.map iV) :: ndB x (ks.map fun q => (LK.nd h q).p).length :: ndK x :: ndV x :: ndC x (ks.map fun q => (LK.nd h q).p) :: F) k) :
    Has (blk g [.slice p1 x.kv.length c1, .slice p2 x.kv.length c2, .slice p4 (i + 1) c4] 98 :: row (.slice p4 (i + 1) c4) 95 1 (i + 1) (((C ++ [k']).map fun q => (LK.nd h q).p).map pV) :: sepL ((C ++ [k']).map (LK.a h)) :: row (.slice p1 x.kv.length c1) 9 1 x.kv.length (x.ks.map kT) :: row (.slice p2 x.kv.length c2) 2 1 x.kv.length (x.vs.map iV) :: ndB x (ks.map fun q => (LK.nd h q).p).length :: ndK x :: ndV x :: ndC x (ks.map fun q => (LK.nd h q).p) :: sepL (ks.map (LK.a h)) :: F) k := by
  have e : ((C ++ [k']).map fun q => (LK.nd h q).p).map pV = (C.map fun q => (LK.nd h q).p).map pV ++ [pV (LK.nd h k').p] := by simp
  rw [e]
  have K2 := Has.mid_in K
  rw [← hks] at K2
  have K3 : Has (sepL (C.map (LK.a h)) :: sepL [LK.a h k'] :: sepL (ks.map (LK.a h)) :: blk g [.slice p1 x.kv.length c1, .slice p2 x.kv.length c2, .slice p4 (i + 1) c4] 98 :: row (.slice p4 (i + 1) c4) 95 1 (i + 1) ((C.map fun q => (LK.nd h q).p).map pV ++ [pV (LK.nd h k').p]) :: row (.slice p1 x.kv.length c1) 9 1 x.kv.length (x.ks.map kT) :: row (.slice p2 x.kv.length c2) 2 1 x.kv.length (x.vs.map iV) :: ndB x (ks.map fun q => (LK.nd h q).p).length :: ndK x :: ndV x :: ndC x (ks.map fun q => (LK.nd h q).p) :: F) k := by
    have K4 := Has.swap K2
    have K5 := Has.close_sepL (l := [LK.a h k']) K4
    exact Sub.any k K5
  have K6 := Has.sep_in K3
  have e2 : C.map (LK.a h) ++ [LK.a h k'] = (C ++ [k']).map (LK.a h) := by simp
  rw [e2] at K6
  exact Sub.any k K6
theorem copied_shut {h g i c1 c2 c3 : Nat} {x : Nd} {ks C : List (LK h)} {p1 p2 p3 : Option Addr} {F : List Assn} {k : Piece} (hi : i = C.length)
    (K : Has (blk g [.slice p1 x.kv.length c1, .slice p2 x.kv.length c2, .slice p3 i c3] 98 :: row (.slice p1 x.kv.length c1) 9 1 x.kv.length (x.ks.map kT) :: row (.slice p2 x.kv.length c2) 2 1 x.kv.length (x.vs.map iV) :: row (.slice p3 i c3) 95 1 i ((C.map fun q => (LK.nd h q).p).map pV) :: sepL (C.map (LK.a h)) :: ndB x (ks.map fun q => (LK.nd h q).p).length :: ndK x :: ndV x :: ndC x (ks.map fun q => (LK.nd h q).p) :: sepL (ks.map (LK.a h)) :: F) k) :
    Has ([treeA h (LT.mk h ⟨g, x.kv, p1, c1, p2, c2, p3, c3⟩ C), treeA h (LT.mk h x ks)] ++ F) k := by
  have K1 := Has.nodeC (x := ⟨g, x.kv, p1, c1, p2, c2, p3, c3⟩) (ps := C.map fun q => (LK.nd h q).p) rfl (by simpa using hi) rfl rfl rfl K
  have K2 : Has (treeA h (LT.mk h ⟨g, x.kv, p1, c1, p2, c2, p3, c3⟩ C) :: ndB x (ks.map fun q => (LK.nd h q).p).length :: ndK x :: ndV x :: ndC x (ks.map fun q => (LK.nd h q).p) :: sepL (ks.map (LK.a h)) :: F) k := Has.closeM K1
  exact Has.cons_imp (fun _ K => Has.closeM K) K2
set_option maxHeartbeats 4000000 in
set_option maxRecDepth 100000 in
theorem Bt.copied0 (B : Base) (o h : Nat) (r : Bool) (x : Nd) (ks : List (LK h)) (ho : 2 ≤ o) (ho2 : o ≤ 64) (hok : okT o h r (LT.mk h x ks)) (IH : ∀ k : LK h, LK.ok o h k → Fn Try.prog B 50 #[pV (LK.nd h k).p] [LK.a h k] (fun u l => ∃ k' : LK h, LK.l h k' = LK.l h k ∧ LK.ok o h k' ∧ u = pV (LK.nd h k').p ∧ l = [LK.a h k', LK.a h k])) :
    Fn Try.prog B 50 #[pV x.p] [treeA h (LT.mk h x ks)] (fun u l => ∃ t' : LT h, toL h t' = toL h (LT.mk h x ks) ∧ okT o h r t' ∧ u = pV (LT.nd h t').p ∧ l = [treeA h t', treeA h (LT.mk h x ks)]) := by
  have hkm : x.kv.length ≤ 2 * o - 1 ∧ (h = 0 ∨ ks.length = x.kv.length + 1) ∧ ∀ k ∈ ks, LK.ok o h k := by
    cases r with
    | false => have a := okN_mk.1 (okN_false.1 hok); exact ⟨a.1, a.2.2.1, a.2.2.2⟩
    | true => have a := okN_mk.1 (okN_true.1 hok); exact ⟨a.1, a.2.2.1, a.2.2.2⟩
  have hksl : ks.length ≤ 128 := by
    rcases hkm.2.1 with e | e
    · subst e; cases ks with
      | nil => simp
      | cons e _ => exact e.elim
    · omega
  refine Fn.enter1 40 Try.func50 rfl rfl (Nat.le_of_ble_eq_true rfl) (fun F => ?_)
  try simp only [List.cons_append, List.nil_append]
  refine T.conv (l' := openA h x ks ++ F) (fun w ho => ho.map fun k K => Has.openM K) ?_
  simp only [openA, List.cons_append, List.nil_append]
  refine T.own fun w0 ho0 => ?_
  have hpk := (ho0.slice_at (p := x.ka) (m := x.kv.length) (c := x.kc) (k := x.kv.length)).2.1
  have hpv := (ho0.slice_at (p := x.va) (m := x.kv.length) (c := x.vc) (k := x.kv.length)).2.1
  have hpc := (ho0.slice_at (p := x.ca) (m := (ks.map fun q => (LK.nd h q).p).length) (c := x.cc) (k := (ks.map fun q => (LK.nd h q).p).length)).2.1
  clear ho0
  refine T.seq ?_
  refine T.region ?_
  refine LW.q rfl (Qt.assign rfl) ?_
  refine LW.done ?_
  refine T.seq ?_
  refine T.drawAll 12 (by kernel_rfl) (Nat.le_of_ble_eq_true rfl) (by kernel_rfl) ?_
  refine RW.q 0 rfl rfl (by kernel_rfl) (Sub.refl _) (Qt.move rfl) ?_
  refine RW.q 1 rfl rfl (by kernel_rfl) (Sub.refl _) (Qt.nilCheck rfl) ?_
  refine RW.q 2 rfl rfl (by kernel_rfl) (Sub.refl _) (Qt.fieldAddr0 (by kernel_rfl) rfl) ?_
  first | refine RW.q 3 rfl rfl (by kernel_rfl) (Sub.refl _) (Qt.load (by kernel_rfl) rfl rfl) ?_ | refine RW.q 3 rfl rfl (by kernel_rfl) (Sub.refl _) (Qt.load (by kernel_rfl) rfl (map_at _ _ _ (by omega))) ?_ | refine RW.q 3 rfl rfl (by kernel_rfl) (Sub.refl _) (Qt.load (by kernel_rfl) rfl (flat_cell0 _ _ _ (by intros; rfl) _ (by omega) (by rfl))) ?_ | refine RW.q 3 rfl rfl (by kernel_rfl) (Sub.refl _) (Qt.load (by kernel_rfl) rfl (flat_cell _ _ _ (by intros; rfl) _ _ (by omega) (by rfl))) ?_ | refine RW.q 3 rfl rfl (by kernel_rfl) (Sub.refl _) (Qt.load (by kernel_rfl) rfl (bytes_at _ _ (by omega))) ?_
  refine RW.q 5 rfl rfl (by kernel_rfl) (Sub.refl _) (Qt.move rfl) ?_
  refine RW.q 6 rfl rfl (by kernel_rfl) (Sub.refl _) (Qt.nilCheck rfl) ?_
  refine RW.q 7 rfl rfl (by kernel_rfl) (Sub.refl _) (Qt.fieldAddr (off := 1) (by kernel_rfl) rfl) ?_
  first | refine RW.q 8 rfl rfl (by kernel_rfl) (Sub.refl _) (Qt.load (by kernel_rfl) rfl rfl) ?_ | refine RW.q 8 rfl rfl (by kernel_rfl) (Sub.refl _) (Qt.load (by kernel_rfl) rfl (map_at _ _ _ (by omega))) ?_ | refine RW.q 8 rfl rfl (by kernel_rfl) (Sub.refl _) (Qt.load (by kernel_rfl) rfl (flat_cell0 _ _ _ (by intros; rfl) _ (by omega) (by rfl))) ?_ | refine RW.q 8 rfl rfl (by kernel_rfl) (Sub.refl _) (Qt.load (by kernel_rfl) rfl (flat_cell _ _ _ (by intros; rfl) _ _ (by omega) (by rfl))) ?_ | refine RW.q 8 rfl rfl (by kernel_rfl) (Sub.refl _) (Qt.load (by kernel_rfl) rfl (bytes_at _ _ (by omega))) ?_
  refine RW.one 4 (by kernel_rfl) ?_
  refine RO.e rfl rfl (Ef.call (Lb.cloneS B [ndK x] (.slice x.ka x.kv.length x.kc) (x.ks.map kT) x.kv.length (by simp) (RdV.ks hpk) (by omega) one_kT) Try.func68 rfl rfl rfl ?_)
  rintro _ _ ⟨p1, c1, rfl, rfl⟩
  try simp only [List.cons_append, List.nil_append]
  refine ⟨Sub.any, ?_⟩
  refine RW.one 9 (by kernel_rfl) ?_
  refine RO.r rfl rfl (by kernel_rfl) (Ef.call (Lb.cloneI B [ndV x] (.slice x.va x.kv.length x.vc) (x.vs.map iV) x.kv.length (by simp) (RdV.vs hpv) (by omega) one_iV) Try.func69 rfl rfl rfl ?_)
  rintro _ _ ⟨p2, c2, rfl, rfl⟩
  try simp only [List.cons_append, List.nil_append]
  refine RW.q 10 rfl rfl (by kernel_rfl) (Sub.refl _) (Qt.build [(0, 1), (1, 1), (2, 1)] [.slice none 0 0, .slice none 0 0, .slice none 0 0] [_, _, _] [(0, _), (1, _)] (by kernel_rfl) (by unfold zeroB; kernel_rfl) rfl rfl) ?_
  refine RW.one 11 (by kernel_rfl) ?_
  refine RO.r rfl rfl (by kernel_rfl) (Ef.box [_, _, _] rfl rfl ?_)
  intro g17
  refine RW.done (by rfl) ?_
  simp only [List.drop_succ_cons, List.drop_zero, List.drop_nil]
  refine LW.q rfl (Qt.assign rfl) ?_
  refine LW.done ?_
  refine T.seq ?_
  refine T.seq ?_
  refine T.region ?_
  refine LW.q rfl (Qt.move rfl) ?_
  refine LW.q rfl (Qt.nilCheck rfl) ?_
  refine LW.q rfl (Qt.fieldAddr (off := 2) (by kernel_rfl) rfl) ?_
  first | refine LW.q rfl (Qt.load (by kernel_rfl) rfl rfl) ?_ | refine LW.q rfl (Qt.load (by kernel_rfl) rfl (map_at _ _ _ (by omega))) ?_ | refine LW.q rfl (Qt.load (by kernel_rfl) rfl (flat_cell0 _ _ _ (by intros; rfl) _ (by omega) (by rfl))) ?_ | refine LW.q rfl (Qt.load (by kernel_rfl) rfl (flat_cell _ _ _ (by intros; rfl) _ _ (by omega) (by rfl))) ?_ | refine LW.q rfl (Qt.load (by kernel_rfl) rfl (bytes_at _ _ (by omega))) ?_
  refine LW.q rfl (Qt.len (e := 95) (sz := 1) (by kernel_rfl) rfl) ?_
  refine LW.q rfl (Qt.move rfl) ?_
  refine LW.done ?_
  refine T.block ?_
  refine T.conv (l' := blk g17 [.slice p1 x.kv.length c1, .slice p2 x.kv.length c2, .slice none 0 0] 98 :: row (.slice none 0 0) 95 1 0 ((([] : List (LK h)).map fun q => (LK.nd h q).p).map pV) :: sepL (([] : List (LK h)).map (LK.a h)) :: row (.slice p1 x.kv.length c1) 9 1 x.kv.length (x.ks.map kT) :: row (.slice p2 x.kv.length c2) 2 1 x.kv.length (x.vs.map iV) :: ndB x (ks.map fun q => (LK.nd h q).p).length :: ndK x :: ndV x :: ndC x (ks.map fun q => (LK.nd h q).p) :: sepL (ks.map (LK.a h)) :: F) (fun w ho => ho.map fun k K => copied_start (Sub.any k K)) ?_
  refine T.loop (fun mz fz lz => ∃ (f0 : Fr) (i : Nat) (C : List (LK h)) (p3 : Option Addr) (c3 : Nat), (i ≤ ks.length ∧ C.length = i ∧ C.map (LK.l h) = (ks.take i).map (LK.l h) ∧ (∀ k ∈ C, LK.ok o h k)) ∧ mz = ks.length - i ∧ fz = (upd (upd (upd (upd f0 3 (pV g17)) 21 (.slice x.ca (ks.map fun q => (LK.nd h q).p).length x.cc)) 22 (.int .i64 (ks.map fun q => (LK.nd h q).p).length)) 23 (.int .i64 i)) ∧ lz = blk g17 [.slice p1 x.kv.length c1, .slice p2 x.kv.length c2, .slice p3 i c3] 98 :: row (.slice p3 i c3) 95 1 i ((C.map fun q => (LK.nd h q).p).map pV) :: sepL (C.map (LK.a h)) :: row (.slice p1 x.kv.length c1) 9 1 x.kv.length (x.ks.map kT) :: row (.slice p2 x.kv.length c2) 2 1 x.kv.length (x.vs.map iV) :: ndB x (ks.map fun q => (LK.nd h q).p).length :: ndK x :: ndV x :: ndC x (ks.map fun q => (LK.nd h q).p) :: sepL (ks.map (LK.a h)) :: F) ?_ ?_
  · refine ⟨_, _, ⟨_, 0, [], none, 0, ⟨Nat.zero_le _, rfl, rfl, (fun _ h => nomatch h)⟩, rfl, (updS rfl (updS rfl (updS rfl (updS rfl rfl)))), rfl⟩, Sub.any⟩
  · skip
    rintro mz fz lz ⟨f0, i, C, p3, c3, ⟨hi, hCl, hC1, hC2⟩, hmz, rfl, rfl⟩
    subst mz
    try simp only [List.cons_append, List.nil_append]
    refine T.seq ?_
    refine T.region ?_
    refine LW.q rfl (Qt.lss rfl rfl) ?_
    refine LW.done ?_
    refine T.seq ?_
    refine T.condP rfl (fun hlt => ?_) (fun hlt => ?_)
    · skip
      have hlt' : i < ks.length := by rw [List.length_map] at hlt; omega
      obtain ⟨b0, o0, hca, hc0⟩ := (RdV.cs (B := B) hpc).at (by rw [List.length_map]; omega)
      obtain ⟨K1, q, K2, hks, hK1⟩ : ∃ K1 q K2, ks = K1 ++ q :: K2 ∧ K1.length = i := ⟨ks.take i, ks[i], ks.drop (i + 1), by rw [List.getElem_cons_drop, List.take_append_drop], by simp; omega⟩
      refine T.conv (fun w ho => ho.map fun k K => copied_open hks K) ?_
      refine T.skip ?_
      refine T.seq ?_
      refine T.block ?_
      refine T.seq ?_
      refine T.region ?_
      refine LW.q rfl (Qt.index i (e := 95) (sz := 1) (g := b0) (o := o0) (by kernel_rfl) (by rw [← hca]; rfl) rfl rfl (by omega)) ?_
      refine LW.q rfl (Qt.loadW (v := pV (LK.nd h q).p) (by kernel_rfl) rfl (fun w ho => by have := hc0 i (by simp; omega) w (ho.map Sub.any); rw [List.getElem_map, List.getElem_map] at this; subst hK1; simp only [hks] at this; simpa using this)) ?_
      refine LW.q rfl (Qt.assign rfl) ?_
      refine LW.done ?_
      refine T.drawBl 9 none (by kernel_rfl) (Nat.le_of_ble_eq_true rfl) (by kernel_rfl) ?_
      refine RW.q 0 rfl rfl (by kernel_rfl) Sub.any (Qt.move rfl) ?_
      refine RW.q 1 rfl rfl (by kernel_rfl) Sub.any (Qt.move rfl) ?_
      refine RW.q 2 rfl rfl (by kernel_rfl) Sub.any (Qt.nilCheck rfl) ?_
      refine RW.q 3 rfl rfl (by kernel_rfl) Sub.any (Qt.fieldAddr (off := 2) (by kernel_rfl) rfl) ?_
      first | refine RW.q 4 rfl rfl (by kernel_rfl) Sub.any (Qt.load (by kernel_rfl) rfl rfl) ?_ | refine RW.q 4 rfl rfl (by kernel_rfl) Sub.any (Qt.load (by kernel_rfl) rfl (map_at _ _ _ (by omega))) ?_ | refine RW.q 4 rfl rfl (by kernel_rfl) Sub.any (Qt.load (by kernel_rfl) rfl (flat_cell0 _ _ _ (by intros; rfl) _ (by omega) (by rfl))) ?_ | refine RW.q 4 rfl rfl (by kernel_rfl) Sub.any (Qt.load (by kernel_rfl) rfl (flat_cell _ _ _ (by intros; rfl) _ _ (by omega) (by rfl))) ?_ | refine RW.q 4 rfl rfl (by kernel_rfl) Sub.any (Qt.load (by kernel_rfl) rfl (bytes_at _ _ (by omega))) ?_
      refine RW.q 5 rfl rfl (by kernel_rfl) Sub.any (Qt.move rfl) ?_
      refine RW.one 6 (by kernel_rfl) ?_
      refine RO.eS rfl rfl (Ef.call (IH q (hkm.2.2 q (by rw [hks]; simp))) Try.func50 rfl rfl rfl ?_)
      rintro _ _ ⟨k', e1, e2, rfl, rfl⟩
      try simp only [List.cons_append, List.nil_append]
      refine ⟨Sub.any, ?_⟩
      refine RW.one 7 (by kernel_rfl) ?_
      refine RO.eS rfl rfl (Ef.one [_] (e := 95) (sz := 1) (by kernel_rfl) ⟨.pointer none, by kernel_rfl, rfl⟩ rfl rfl rfl (by omega) (by omega) ?_)
      intro g34
      refine ⟨Sub.any, ?_⟩
      refine RW.one 8 (by kernel_rfl) ?_
      refine RO.r rfl rfl (by kernel_rfl) (Ef.append Lb.elemN rfl rfl (SrcOf.blk (by kernel_rfl) rfl (by simp [Value.oneCell'])) (by unfold maxLen; omega) (by omega) ?_)
      rintro p4 c4 hp4
      try simp only [List.cons_append, List.nil_append]
      refine RW.done (by rfl) ?_
      simp only [List.drop_succ_cons, List.drop_zero, List.drop_nil]
      refine LW.q rfl (Qt.nilCheck rfl) ?_
      refine LW.q rfl (Qt.fieldAddr (off := 2) (by kernel_rfl) rfl) ?_
      refine LW.e0 rfl (Ef.store1 (by kernel_rfl) rfl rfl rfl (by first | (simp; done) | (simp; omega)) ?_)
      try simp only [List.set_cons_zero, List.set_cons_succ]
      refine LW.done ?_
      refine T.region ?_
      refine LW.q rfl (Qt.add rfl rfl (wr64 (by omega) (by omega))) ?_
      refine LW.q rfl (Qt.move rfl) ?_
      refine LW.done ?_
      refine ⟨_, ?_, _, ⟨_, i + 1, C ++ [k'], p4, c4, ⟨by omega, by simp [hCl], by rw [List.map_append, hC1, List.take_add_one]; subst hK1; simp [hks, e1], fun k hk => (List.mem_append.1 hk).elim (hC2 k) (fun h => by rw [List.mem_singleton.1 h]; exact e2)⟩, rfl, (updS rfl (updS rfl (updS rfl (updS rfl rfl)))), rfl⟩, (fun k K => copied_step hks (Sub.any k K))⟩
      first | omega | (simp; omega)
    · skip
      have hie : i = ks.length := by rw [List.length_map] at hlt; omega
      have hen := copied_end (y := ⟨g17, x.kv, p1, c1, p2, c2, p3, c3⟩) (C := C) hok rfl ⟨by rw [hC1, hie, List.take_length], hC2⟩
      refine T.exit ?_
      refine T.seq ?_
      refine T.region ?_
      refine LW.q rfl (Qt.move rfl) ?_
      refine LW.q rfl (Qt.assign rfl) ?_
      refine LW.done ?_
      refine T.ret ?_
      exact ⟨.inl rfl, _, _, res [_] rfl ⟨rvT rfl, trivial⟩, ⟨LT.mk h ⟨g17, x.kv, p1, c1, p2, c2, p3, c3⟩ C, hen.1, hen.2, by rw [LT.nd_mk]; rfl, rfl⟩, (fun k K => copied_shut (by rw [hCl]) (Sub.any k K))⟩
theorem Bt.copiedT (B : Base) (o h : Nat) (r : Bool) (t : LT h) (ho : 2 ≤ o) (ho2 : o ≤ 64) (hok : okT o h r t) (IH : ∀ k : LK h, LK.ok o h k → Fn Try.prog B 50 #[pV (LK.nd h k).p] [LK.a h k] (fun u l => ∃ k' : LK h, LK.l h k' = LK.l h k ∧ LK.ok o h k' ∧ u = pV (LK.nd h k').p ∧ l = [LK.a h k', LK.a h k])) : Fn Try.prog B 50 #[pV (LT.nd h t).p] [treeA h t] (fun u l => ∃ t' : LT h, toL h t' = toL h t ∧ okT o h r t' ∧ u = pV (LT.nd h t').p ∧ l = [treeA h t', treeA h t]) := by
  have := Bt.copied0 B o h r (LT.nd h t) (LT.ksL h t) ho ho2 (by rw [LT.eta]; exact hok) IH
  rw [LT.eta] at this
  exact this
theorem Bt.copiedK (B : Base) (o : Nat) (ho : 2 ≤ o) (ho2 : o ≤ 64) : ∀ (h : Nat) (k : LK h), LK.ok o h k → Fn Try.prog B 50 #[pV (LK.nd h k).p] [LK.a h k] (fun u l => ∃ k' : LK h, LK.l h k' = LK.l h k ∧ LK.ok o h k' ∧ u = pV (LK.nd h k').p ∧ l = [LK.a h k', LK.a h k])
  | 0, k, _ => k.elim
  | h + 1, k, hk => Bt.copiedT B o h false k ho ho2 hk (Bt.copiedK B o ho ho2 h)
theorem Bt.copied (B : Base) (o h : Nat) (r : Bool) (t : LT h) (ho : 2 ≤ o) (ho2 : o ≤ 64) (hok : okT o h r t) : Fn Try.prog B 50 #[pV (LT.nd h t).p] [treeA h t] (fun u l => ∃ t' : LT h, toL h t' = toL h t ∧ okT o h r t' ∧ u = pV (LT.nd h t').p ∧ l = [treeA h t', treeA h t]) := Bt.copiedT B o h r t ho ho2 hok (Bt.copiedK B o ho ho2 h)
end Go.Proofs.Ytefognjcognknaa

/- btree: what walk comes to. Conditions: none. -/
set_option linter.unusedSimpArgs false
set_option linter.unusedVariables false
namespace Go.Proofs.Ytefognjcognknaa
open Go.RowKit
/-- Is a pair in a range? -/
def inR (f t : Str) (p : KV) : Bool := !sl p.1 f && (decide (t = []) || sl p.1 t)
abbrev rgL (f t : Str) (l : List KV) : List KV := l.filter (inR f t)
/-- The list goes beyond the range's end. -/
def hit (f t : Str) (l : List KV) : Prop := ∃ p ∈ l, sl p.1 f = false ∧ t ≠ [] ∧ sl p.1 t = false
def preK : (h : Nat) → List (LK h) → List KV → Nat → List KV
  | 0, _, kv, i => kv.take i
  | h + 1, ks, kv, i => lefts ((ks.take i).map (LK.l (h + 1))) (kv.take i)
def kidL (h : Nat) (ks : List (LK h)) (i : Nat) : List KV := match ks[i]? with
  | some k => LK.l h k
  | none => []
def sufK : (h : Nat) → List (LK h) → List KV → Nat → List KV
  | 0, _, kv, i => kv.drop i
  | h + 1, ks, kv, i => rights (kv.drop i) ((ks.drop (i + 1)).map (LK.l (h + 1)))
theorem kidL_zero (ks : List (LK 0)) (i : Nat) : kidL 0 ks i = [] := by
  unfold kidL
  cases h : ks[i]? with
  | none => rfl
  | some k => exact k.elim
theorem kidL_at {h : Nat} {ks : List (LK h)} {i : Nat} {k : LK h} (e : ks[i]? = some k) : kidL h ks i = LK.l h k := by unfold kidL; rw [e]
theorem toL_cut {h : Nat} {ks : List (LK h)} {kv : List KV} {i : Nat} (hk : h = 0 ∨ ks.length = kv.length + 1) (hi : i ≤ kv.length) : interK h ks kv = preK h ks kv i ++ (kidL h ks i ++ sufK h ks kv i) := by
  cases h with
  | zero => rw [kidL_zero]; exact (List.take_append_drop i kv).symm
  | succ h =>
    have hl := hk.resolve_left (by omega)
    have hlt : i < ks.length := by omega
    rw [kidL_at (List.getElem?_eq_getElem hlt)]
    have e : ks = ks.take i ++ ks[i] :: ks.drop (i + 1) := by rw [List.getElem_cons_drop, List.take_append_drop]
    show inter (ks.map (LK.l (h + 1))) kv = lefts ((ks.take i).map (LK.l (h + 1))) (kv.take i) ++ (LK.l (h + 1) ks[i] ++ rights (kv.drop i) ((ks.drop (i + 1)).map (LK.l (h + 1))))
    conv => lhs; rw [e]
    rw [List.map_append, List.map_cons]
    have hm : ((ks.take i).map (LK.l (h + 1))).length = i := by simp; omega
    rw [inter_split _ _ _ _ (by rw [hm]; exact hi) (by rw [hm]; simp; omega), hm]
theorem lefts_snoc {α : Type} : ∀ (A : List (List α)) (vs : List α) (b : List α) (y : α), A.length = vs.length → lefts (A ++ [b]) (vs ++ [y]) = lefts A vs ++ (b ++ [y])
  | [], [], b, y, _ => by simp [lefts]
  | [], _ :: _, _, _, h => by simp at h
  | _ :: _, [], _, _, h => by simp at h
  | a :: A, v :: vs, b, y, h => by
    have := lefts_snoc A vs b y (by simpa using h)
    rw [List.cons_append, List.cons_append, lefts, this, lefts]; simp
theorem preK_succ {h : Nat} {ks : List (LK h)} {kv : List KV} {i : Nat} {p : KV} (hk : h = 0 ∨ ks.length = kv.length + 1) (hp : kv[i]? = some p) : preK h ks kv (i + 1) = preK h ks kv i ++ (kidL h ks i ++ [p]) := by
  obtain ⟨hi, hp'⟩ := List.getElem?_eq_some_iff.1 hp
  have ev : kv.take (i + 1) = kv.take i ++ [p] := by rw [List.take_add_one, hp]; rfl
  cases h with
  | zero => rw [kidL_zero]; exact ev
  | succ h =>
    have hl := hk.resolve_left (by omega)
    have hlt : i < ks.length := by omega
    rw [kidL_at (List.getElem?_eq_getElem hlt)]
    show lefts ((ks.take (i + 1)).map (LK.l (h + 1))) (kv.take (i + 1)) = _
    rw [ev, List.take_add_one, List.getElem?_eq_getElem hlt, List.map_append]
    exact lefts_snoc _ _ _ _ (by simp; omega)
theorem sufK_at {h : Nat} {ks : List (LK h)} {kv : List KV} {i : Nat} {p : KV} (hk : h = 0 ∨ ks.length = kv.length + 1) (hp : kv[i]? = some p) : ∃ r, sufK h ks kv i = p :: r := by
  obtain ⟨hi, hp'⟩ := List.getElem?_eq_some_iff.1 hp
  have ev : kv.drop i = p :: kv.drop (i + 1) := by rw [List.drop_eq_getElem_cons hi, hp']
  cases h with
  | zero => exact ⟨_, ev⟩
  | succ h =>
    have hl := hk.resolve_left (by omega)
    have hlt : i + 1 < ks.length := by omega
    refine ⟨LK.l (h + 1) ks[i + 1] ++ rights (kv.drop (i + 1)) ((ks.drop (i + 2)).map (LK.l (h + 1))), ?_⟩
    show rights (kv.drop i) ((ks.drop (i + 1)).map (LK.l (h + 1))) = _
    rw [ev, List.drop_eq_getElem_cons hlt, List.map_cons, rights]
theorem sufK_end (h : Nat) (ks : List (LK h)) (kv : List KV) : sufK h ks kv kv.length = [] := by
  cases h with
  | zero => exact List.drop_length
  | succ h => show rights (kv.drop kv.length) _ = []; rw [List.drop_length]; rfl
theorem preK_lt {h : Nat} {x : Nd} {ks : List (LK h)} {f : Str} (hk : h = 0 ∨ ks.length = x.kv.length + 1) (hu : Up (toL h (LT.mk h x ks))) : ∀ y ∈ preK h ks x.kv (spot x.ks f), sl y.1 f = true := by
  have hi : spot x.ks f ≤ x.kv.length := by have := spot_le x.ks f; simpa using this
  rw [toL_mk, toL_cut hk hi] at hu
  cases h with
  | zero => exact spot_take
  | succ h => exact lefts_lt (List.pairwise_append.1 hu).1 spot_take
theorem rgL_lt {f t : Str} {l : List KV} (h : ∀ y ∈ l, sl y.1 f = true) : rgL f t l = [] := List.filter_eq_nil_iff.2 fun y hy => by unfold inR; rw [h y hy]; simp
theorem hit_lt {f t : Str} {l : List KV} (h : ∀ y ∈ l, sl y.1 f = true) : ¬ hit f t l := fun ⟨p, hp, h1, _⟩ => by rw [h p hp] at h1; cases h1
theorem hit_app {f t : Str} {a b : List KV} : hit f t (a ++ b) ↔ hit f t a ∨ hit f t b := by
  constructor
  · rintro ⟨p, hp, h⟩
    rcases List.mem_append.1 hp with hp | hp
    · exact .inl ⟨p, hp, h⟩
    · exact .inr ⟨p, hp, h⟩
  · rintro (⟨p, hp, h⟩ | ⟨p, hp, h⟩)
    · exact ⟨p, List.mem_append_left _ hp, h⟩
    · exact ⟨p, List.mem_append_right _ hp, h⟩
/-- Behind a pair beyond the end nothing is in the range. -/
theorem rgL_after {f t : Str} {a b : List KV} (hu : Up (a ++ b)) (hh : hit f t a) : rgL f t b = [] := by
  obtain ⟨p, hp, h1, h2, h3⟩ := hh
  refine List.filter_eq_nil_iff.2 fun y hy => ?_
  have hlt := (List.pairwise_append.1 hu).2.2 p hp y hy
  have : sl y.1 t = false := Bool.eq_false_iff.2 fun e => by
    have := sl_trans hlt e
    rw [h3] at this; cases this
  unfold inR
  simp [h2, this]
theorem rgL_all {f t : Str} {L a b : List KV} (e : L = a ++ b) (hu : Up L) (hh : hit f t a) : rgL f t L = rgL f t a ∧ hit f t L := by
  subst e
  refine ⟨?_, hit_app.2 (.inl hh)⟩
  show (a ++ b).filter _ = _
  rw [List.filter_append]
  have := rgL_after hu hh
  show a.filter _ ++ rgL f t b = _
  rw [this, List.append_nil]
theorem inR_at {f : Str} {x : Nd} {i : Nat} {p : KV} (hp : x.kv[i]? = some p) (hs : spot x.ks f ≤ i) (hu : Up x.kv) : sl p.1 f = false := by
  refine spot_drop (x := x) hu p ?_
  exact List.mem_of_getElem? (i := i - spot x.ks f) (by rw [List.getElem?_drop]; rw [show spot x.ks f + (i - spot x.ks f) = i by omega]; exact hp)
/-- What walk answers and leaves. -/
def walkP (f t : Str) (R : List KV) (J Jx : List KV → List Assn) (L pre0 : List KV) (A : Assn) (u : Value) (l : List Assn) : Prop := ∃ (b : Bool) (st : List Assn), u = .bool b ∧ l = A :: st ∧ ((b = true ∧ ¬ hit f t L ∧ st = J (pre0 ++ rgL f t L)) ∨ (b = false ∧ hit f t L ∧ st = J (pre0 ++ rgL f t L)) ∨ (b = false ∧ ∃ xs, xs <+: R ∧ xs ≠ [] ∧ st = Jx xs))
end Go.Proofs.Ytefognjcognknaa
