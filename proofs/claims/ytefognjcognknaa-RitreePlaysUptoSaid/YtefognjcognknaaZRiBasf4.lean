/- The texts SlV LbA, one behind the other: what the law leans on. Conditions: as each theorem says. -/
import Derived.Test.YtefognjcognknaaZRiBasf3
import Derived.Lib.SliceRun
import Derived.Lib.Overlaps
/- More rules: append within a block, append of noughts that grows, clear, cap, slices.overlaps. Conditions: of each rule its own. -/
set_option linter.unusedSimpArgs false
set_option linter.unusedVariables false
namespace Go.Proofs.Ytefognjcognknaa
open Go.RowKit
section
variable {P : Program} {B : Base} {n : Nat} {S l r : List Assn} {f : Fr} {K : Value → List Assn → Prop}
variable {d : Option Tmp} {ty : TypeId} {pos : String} {af : Array Edge} {gd : Option (Nat × Bool)}
/-- 'append' where there is room, at the block's level. -/
theorem Ef.appendB {t tx e bytes g k c m : Nat} {x y : Operand} {u : Value} {C news : List Value} {ty2 : TypeId} (E : ElemOk P t e 1 bytes) (hx : ev n f x = some (.slice (some ⟨g, 0, none⟩) k c)) (hy : ev n f y = some u)
    (hS : SrcOf P B l 1 tx u m news) (hroom : k + m ≤ c) (hC : c ≤ C.length) [kk : StoreAt g l C (splice C k news) r] (h : K (.slice (some ⟨g, 0, none⟩) (k + m) c) r) : Ef P B n ⟨d, .call ⟨.builtin .append, #[x, y], #[t, tx]⟩, ty2, pos, af, gd⟩ f l K := ⟨fun w next Q ho hk2 => by
  obtain ⟨i, z, hi, hz, hs, _, _⟩ := E.ex
  have hsrc := hS.src w ho
  have hnl : news.length = m := by have := hsrc.newsLen; omega
  obtain ⟨X, t', hg, ho'⟩ := ho.store (g := g) (C := C) (D := splice C k news) (length_splice _ _ _ (by omega))
  have hsz : (C ++ X).toArray.size = C.length + X.length := by simp
  have hr := run_append_room_src (P := P) w t tx ty2 e i E.ht hi g 0 k c u m news (by rw [hs]; exact hsrc) hroom
    (fun j hj => by rw [cell_of_row w g _ _ t' (0, 0) hg]; simp [hs]; omega) (fun j hj => frozen_of_row w g _ _ t' hg)
  rw [hs] at hr
  simp only [Nat.zero_add, Nat.mul_one] at hr
  rw [setCells_row P w g t' news k _ hg (by rw [hsz]; omega) hsrc.one] at hr
  have hsp := splice_append C X k news (by omega)
  simp only [] at hr
  rw [hsp] at hr
  unfold Oper.wp execOp
  simp only [eval_act', resolve, invoke, builtin, Sem.run_bind, Sem.run_pure, Result.andThen_ok, List.map_toArray, List.map_cons, List.map_nil, evu_eq hx, evu_eq hy, hr]
  exact hk2 _ _ _ h ho'⟩
/-- 'append(s, make([]T, m)...)' where there is none: a new row; the old block stays. -/
theorem Ef.appendZG {t tx e bytes g k c m : Nat} {x y : Operand} {C : List Value} {ki kk : IntKind} {im : Int} {ty2 : TypeId} (z zv : Value) (E : ElemOk P t e 1 bytes) (hk : P.underlying tx = some (.int ki)) (hzz : (P.info? e).bind (·.zero) = some z) (hzc : z.cells = #[zv])
    (hx : ev n f x = some (.slice (some ⟨g, 0, none⟩) k c)) (hy : ev n f y = some (.int kk im)) (him : im = (m : Int)) [hc : CellsAt g l C] (hkc : k ≤ c) (hkC : k ≤ C.length) (hg : c < k + m) (h63 : k + m ≤ maxLen) (hbytes : (k + m) * bytes ≤ 140737488355328)
    (h : ∀ g' c', k + m ≤ c' → K (.slice (some ⟨g', 0, none⟩) (k + m) c') (row (.slice (some ⟨g', 0, none⟩) (k + m) c') e 1 (k + m) (C.take k ++ List.replicate m zv) :: l)) : Ef P B n ⟨d, .call ⟨.builtin .append, #[x, y], #[t, tx]⟩, ty2, pos, af, gd⟩ f l K := ⟨fun w next Q ho hk2 => by
  subst him
  obtain ⟨i, z', hi, hz, hs, hby, hzs⟩ := E.ex
  rw [hi] at hzz
  simp only [Option.bind_some] at hzz
  rw [hz] at hzz
  injection hzz with hzz
  subst hzz
  subst hby
  obtain ⟨X, t', fr, hb⟩ := ho.cells (g := g)
  have hsmall : k + m ≤ 9223372036854775807 := by simp only [maxLen] at h63; omega
  have hlen : (C.take k ++ List.replicate m zv).length = (k + m) * 1 := by rw [List.length_append, List.length_take, List.length_replicate]; omega
  have hmb : m * i.bytes ≤ 281474976710656 := by
    have : m * i.bytes ≤ (k + m) * i.bytes := Nat.mul_le_mul_right _ (by omega)
    omega
  have holds : ∀ j u, (C.take k)[j]? = some u → w.cell? ((⟨g, 0, none⟩ : Addr).add j) = some u := fun j u hj => by
    have hj2 : C[j]? = some u := by
      rw [List.getElem?_take] at hj
      split at hj
      · exact hj
      · cases hj
    have hjl : j < C.length := (List.getElem?_eq_some_iff.1 hj2).1
    have e : ((⟨g, 0, none⟩ : Addr).add j) = ⟨g, j, none⟩ := by rw [Addr.add_mid]; simp
    rw [e, cell_of_row w g _ _ t' fr hb]
    simp only [List.getElem?_toArray]
    rw [List.getElem?_append_left hjl, hj2]
  have hf := run_firstCells_some (P := P) w.drew 1 k ⟨g, 0, none⟩ k c (C.take k) (by rw [List.length_take]; omega) (by simpa using holds)
  have hr := run_append_grow_z (P := P) (ty := ty2) (tx := tx) w t e i z' zv ki kk E.ht hk hi hz hzc hs (some ⟨g, 0, none⟩) k c m (C.take k) hf hmb hkc hg (by omega) (growslice_fits (by omega) hbytes)
  unfold Oper.wp execOp
  simp only [eval_act', resolve, invoke, builtin, Sem.run_bind, Sem.run_pure, Result.andThen_ok, List.map_toArray, List.map_cons, List.map_nil, evu_eq hx, evu_eq hy, hr]
  have hge := grownCap_ge w (k + m) c e
  refine hk2 _ _ _ (h _ _ hge) (Own.fresh ho ((Kept.refl _ _).drew.alloc _) fun hh eh => ?_)
  have hcm2 : grownCap w (k + m) c e ≤ maxLen := grownCap_le_maxLen w (k + m) c e h63
  refine ⟨hlen, .inr ⟨w.heap.size, _, _, rfl, (by rw [eh _ (Nat.le_refl _)]; exact heap_alloc_new w.drew _), hge, hcm2, ?_, ?_⟩⟩
  · rw [Array.size_append, List.size_toArray, size_zeroCells, hzs, hlen, ← Nat.add_mul]
    congr 1
    omega
  · rw [Array.toList_append, ← hlen]
    exact List.take_left⟩
theorem Ef.clear {t e g o m c : Nat} {x : Operand} {C : List Value} {ty2 : TypeId} (z : Value) (hk : sliceB P t e 1 = true) (hz : (P.info? e).bind (·.zero) = some z) (hzc : z.cells = #[z]) (h1 : z.oneCell' = true) (hx : ev n f x = some (.slice (some ⟨g, o, none⟩) m c)) (hm : 0 < m) (hfit : o + m ≤ C.length)
    [kk : StoreAt g l C (splice C o (List.replicate m z)) r] (h : K (.tuple #[]) r) : Ef P B n ⟨d, .call ⟨.builtin .clear, #[x], #[t]⟩, ty2, pos, af, gd⟩ f l K := ⟨fun w next Q ho hk2 => by
  obtain ⟨hu, _⟩ := sliceB_spec hk
  obtain ⟨X, t', hg, ho'⟩ := ho.store (g := g) (C := C) (D := splice C o (List.replicate m z)) (length_splice _ _ _ (by simpa using hfit))
  have hv : ∀ w, (zeroValue e).run P w = .ok z w := fun w => by
    cases hi : P.info? e with
    | none => rw [hi] at hz; cases hz
    | some i =>
      rw [hi] at hz
      simp only [Option.bind_some] at hz
      simp [zeroValue, typeInfo, hi, hz]
  have hr := Lib.run_clear_slice (P := P) w t e ty2 z hu hv hzc h1 g o m c hm (fun j hj => by rw [cell_of_row w g _ _ t' (0, 0) hg]; simp; omega) (fun j hj => frozen_of_row w g _ _ t' hg)
  rw [setCells_row P w g t' _ o _ hg (by simp; omega) (by intro u hu; rw [List.eq_of_mem_replicate hu]; exact h1)] at hr
  have hsp := splice_append C X o (List.replicate m z) (by simpa using hfit)
  simp only [] at hr
  rw [hsp] at hr
  unfold Oper.wp execOp
  simp only [eval_act', resolve, invoke, builtin, Sem.run_bind, Sem.run_pure, Result.andThen_ok, List.map_toArray, List.map_cons, List.map_nil, evu_eq hx, hr]
  exact hk2 _ _ _ h ho'⟩
theorem Qt.cap {t : TypeId} {e sz : Nat} {x : Operand} {p : Option Addr} {len cap : Nat} {ty2 : TypeId} (ht : sliceB P t e sz = true) (hx : ev n f x = some (.slice p len cap)) : Qt P B n S ⟨d, .call ⟨.builtin .cap, #[x], #[t]⟩, ty2, pos, af, gd⟩ f (.int .i64 cap) := ⟨fun w _ => by
  obtain ⟨hu, _⟩ := sliceB_spec ht
  simp [execOp, resolve, invoke, builtin, Builtin.cap_, run_underlying hu, evu_eq hx, goInt]⟩
/-- 'copy(dst, src)' of one-cell elements, something at least. -/
theorem Ef.copyT {dT sT e g o dLen dCap sLen sCap : Nat} {x y : Operand} {a : Option Addr} {C cs : List Value} {src : List Value} {ty2 : TypeId} (hk : sliceB P dT e 1 = true) (hx : ev n f x = some (.slice (some ⟨g, o, none⟩) dLen dCap)) (hy : ev n f y = some (.slice a sLen sCap))
    (hS : RdV B l (.slice a sLen sCap) src) (m : Nat) (hm : m = Nat.min sLen dLen) (hpos : 0 < m) (hcs : cs = src.take m) (hl : sLen = src.length) (h1 : ∀ v ∈ cs, v.oneCell' = true)
    [k : StoreAt g l C (splice C o cs) r] (hfit : o + m ≤ C.length) (h : K (.int .i64 m) r) : Ef P B n ⟨d, .call ⟨.builtin .copy, #[x, y], #[dT, sT]⟩, ty2, pos, af, gd⟩ f l K := ⟨fun w next Q ho hk2 => by
  have hml : m ≤ src.length := by rw [hm, hl]; exact Nat.min_le_left _ _
  have hcl : cs.length = m := by rw [hcs, List.length_take]; omega
  obtain ⟨X, t', hg, ho'⟩ := ho.store (g := g) (C := C) (D := splice C o cs) (length_splice _ _ _ (by omega))
  obtain ⟨hu, hs⟩ := sliceB_spec hk
  obtain ⟨a2, c2, e2, h3 | ⟨b, o2, e3, h4⟩⟩ := hS
  · rw [h3] at hml; simp at hml; omega
  · injection e2 with e2 _ _
    subst e2; subst e3
    have hr := run_copy_row (P := P) w dT sT ty2 e g o dLen dCap ⟨b, o2, none⟩ sLen sCap _ t' cs hu hs hg (by rw [hcl, hm]) (fun j v hv => by
      rw [Addr.add_mid]
      refine h4 w ho j v ?_
      rw [hcs, List.getElem?_take] at hv
      split at hv
      · exact hv
      · cases hv) (by simp; omega) h1
    have hsp := splice_append C X o cs (by omega)
    unfold splice at hsp
    simp only [List.append_assoc] at hr hsp
    rw [hsp] at hr
    unfold Oper.wp execOp
    simp only [eval_act', resolve, invoke, builtin, Sem.run_bind, Sem.run_pure, Result.andThen_ok, List.map_toArray, List.map_cons, List.map_nil, evu_eq hx, evu_eq hy, hr]
    refine hk2 _ _ _ (by rw [hcl]; exact h) ?_
    unfold splice at ho'
    simp only [List.append_assoc] at ho'
    exact ho'⟩
theorem Ef.qt {o : Oper} {v : Value} (hq : Qt P B n l o f v) (h : K v l) : Ef P B n o f l K := ⟨fun w next Q ho hk => by
  unfold Oper.wp
  rw [eval_act', hq.run w ho]
  exact hk _ _ _ h ho⟩
theorem Qt.sliceE_snn {t e sz : Nat} {x y : Operand} {p : Option Addr} {m c : Nat} {k : IntKind} {i : Int} (lo : Nat) (p' : Option Addr) (m' c' : Nat) (ht : sliceB P t e sz = true) (hx : ev n f x = some (.slice p m c)) (hy : ev n f y = some (.int k i)) (hi1 : i = (lo : Int)) (h1 : lo ≤ m) (hp : offA p c lo sz = p') (hm : m - lo = m') (hc : c - lo = c') :
    Qt P B n S ⟨d, .slice t x (some y) none none, ty, pos, af, gd⟩ f (.slice p' m' c') := by
  subst hp; subst hm; subst hc
  exact Qt.slice_snn lo ht hx hy hi1 h1
theorem Qt.sliceE_ssn {t e sz : Nat} {x y z : Operand} {p : Option Addr} {m c : Nat} {k k2 : IntKind} {i j : Int} (lo hi : Nat) (p' : Option Addr) (m' c' : Nat) (ht : sliceB P t e sz = true) (hx : ev n f x = some (.slice p m c)) (hy : ev n f y = some (.int k i)) (hz : ev n f z = some (.int k2 j)) (hi1 : i = (lo : Int)) (hj1 : j = (hi : Int)) (h1 : lo ≤ hi) (h2 : hi ≤ c) (hp : offA p c lo sz = p') (hm : hi - lo = m') (hc : c - lo = c') :
    Qt P B n S ⟨d, .slice t x (some y) (some z) none, ty, pos, af, gd⟩ f (.slice p' m' c') := by
  subst hp; subst hm; subst hc
  exact Qt.slice_ssn lo hi ht hx hy hz hi1 hj1 h1 h2
theorem offA_one {b c lo : Nat} (h : lo < c) : offA (some ⟨b, 0, none⟩) c lo 1 = some ⟨b, lo, none⟩ := by rw [offA_some (by omega)]; simp
theorem Qt.slice_sss {t e sz : Nat} {x y z u : Operand} {p : Option Addr} {m c : Nat} {k k2 k3 : IntKind} {i j q : Int} (lo hi mx : Nat) (ht : sliceB P t e sz = true) (hx : ev n f x = some (.slice p m c)) (hy : ev n f y = some (.int k i)) (hz : ev n f z = some (.int k2 j)) (hu : ev n f u = some (.int k3 q)) (hi1 : i = (lo : Int)) (hj1 : j = (hi : Int)) (hq1 : q = (mx : Int)) (h1 : lo ≤ hi) (h2 : hi ≤ mx) (h3 : mx ≤ c) :
    Qt P B n S ⟨d, .slice t x (some y) (some z) (some u), ty, pos, af, gd⟩ f (.slice (offA p mx lo sz) (hi - lo) (mx - lo)) := ⟨fun w _ => by
  subst hi1; subst hj1; subst hq1
  obtain ⟨hu2, hs⟩ := sliceB_spec ht
  obtain ⟨i, hi', his⟩ := info_of_size hs
  subst his
  have h4 : hi ≤ c := by omega
  have h5 : lo ≤ mx := by omega
  have : (Instr.sliceAt t (.slice p m c) (some (.int k lo)) (some (.int k2 hi)) (some (.int k3 mx))).run P w = .ok (.slice (if mx = lo then p else p.map (·.add (lo * i.size))) (hi - lo) (mx - lo)) w := by
    simp [Instr.sliceAt, run_underlying hu2, Instr.slice, Instr.sliceBounds, Instr.sliceBound, asIntOf, sizeOf, typeInfo, hi', h1, h2, h3, h4, h5]
  simp [execOp, evu_eq hx, evu_eq hy, evu_eq hz, evu_eq hu, this, offA]⟩
end
end Go.Proofs.Ytefognjcognknaa

/- slices.Insert, Delete and Clone of elements of one cell each. Conditions: sizes. -/
set_option linter.unusedSimpArgs false
set_option linter.unusedVariables false
namespace Go.Proofs.Ytefognjcognknaa
open Go.RowKit
section
variable {P : Program} {B : Base} {n : Nat} {S l r : List Assn} {f : Fr} {K : Value → List Assn → Prop}
variable {d : Option Tmp} {ty : TypeId} {pos : String} {af : Array Edge} {gd : Option (Nat × Bool)}
theorem Ef.overlapsNo {g : FuncId} {fn : Func} {x y : Operand} {ats : Array TypeId} {tS tR e ta tb : TypeId} {ga gb oa ob la ca lb cb : Nat} {Ca Cb : List Value} {F : List Assn} (hf : P.funcs[g]? = some fn) (hname : (fn.name == "runtime.NumGoroutine") = false) (hb : fn.body.isNone = true) (hn : Extern.findNext fn = none)
    (he : Extern.find fn = some (Extern.SlicesOverlaps.overlaps #[tS, tS] #[tR])) (ht : sliceB P tS e 1 = true) (hx : ev n f x = some (.slice (some ⟨ga, oa, none⟩) la ca)) (hy : ev n f y = some (.slice (some ⟨gb, ob, none⟩) lb cb))
    [k : TakeL [blk ga Ca ta, blk gb Cb tb] l F] (hC : Cb ≠ []) (h : K (.bool false) l) : Ef P B n ⟨d, .call ⟨.value (.func g), #[x, y], ats⟩, ty, pos, af, gd⟩ f l K := ⟨fun w next Q ho hk => by
  obtain ⟨hu, hsz⟩ := sliceB_spec ht
  obtain ⟨i, hi, his⟩ := info_of_size hsz
  have H := ho.takeL (k := k)
  have ha : w.heap[ga]? = some (.cells Ca.toArray ta (0, 0)) := H.get
  have hbb : w.heap[gb]? = some (.cells Cb.toArray tb (0, 0)) := (H.map fun _ q => q.tail).get
  have hne : ga ≠ gb := by
    obtain ⟨h, _, _, h1, h2, dj, _, _, p1, h3, h4, _, le3, _, p2, _⟩ := H.has
    intro e
    subst e
    rcases dj.p ga with q | q
    · rw [p1] at q; cases q
    · have := le3.p _ _ p2
      rw [q] at this; cases this
  have hrun := Lib.run_overlaps_apart (P := P) w tS tR e hu 1 (fun w => by simp [sizeOf, typeInfo, hi, his]) ⟨ga, oa, none⟩ ⟨gb, ob, none⟩ la ca lb cb hne ta tb Ca.toArray.size Cb.toArray.size (by simp [World.shape?, ha]) (by simp [World.shape?, hbb]) (by simpa using hC) (by simp [World.frozen?, ha]) (by simp [World.frozen?, ha])
  have hav : (#[x, y] : Array Operand).map (evu n f) = #[.slice (some ⟨ga, oa, none⟩) la ca, .slice (some ⟨gb, ob, none⟩) lb cb] := by simp [evu_eq hx, evu_eq hy]
  have hcf := run_callFunc_extern (P := P) hf hname hb hn he #[.slice (some ⟨ga, oa, none⟩) la ca, .slice (some ⟨gb, ob, none⟩) lb cb] w
  unfold Oper.wp execOp
  rw [eval_act']
  have he2 : ((do let c ← resolve (evu n f) ⟨.value (.func g), #[x, y], ats⟩ ty; invoke c.target c.args) : Sem Next).run P w = .ok (.value (.bool false)) w := by
    have hg : evu n f (.func g) = .func (.func g) #[] #[] := rfl
    simp only [resolve, hav, hg]
    simp [Deferred.ofValue, invoke, hcf, hrun]
  rw [he2]
  exact hk _ w _ h ho⟩
theorem Own.openRow {w : World} {g m c e : Nat} {xs : List Value} (H : Own B w (row (.slice (some ⟨g, 0, none⟩) m c) e 1 m xs :: l)) : ∃ C : List Value, Own B w (pu (C.length = c ∧ C.take m = xs ∧ m ≤ c ∧ c ≤ maxLen) :: blk g C e :: l) := by
  obtain ⟨h, d, hl, h1, h2, d2, a1, a2, ⟨hx, e1⟩, H2⟩ := H.has
  rcases e1 with ⟨e1, _⟩ | ⟨g', cap', cur, e1, e2, c1, c2, c3, c4⟩
  · cases e1
  · injection e1 with e1 _ ec
    injection e1 with e1
    injection e1 with e1
    subst e1; subst ec
    refine ⟨cur.toList, H.os, H.tape, H.output, H.ro, h, d, hl, Has.close_pu ⟨by simpa using c3, by simpa using c4, c1, c2⟩ ⟨h1, h2, d2, a1, a2, ?_, H2⟩⟩
    unfold blk
    simpa using e2
theorem Has.closeRow {h : Piece} {g m c e : Nat} {C xs : List Value} (hC : C.length = c) (hm : m ≤ c) (hc : c ≤ maxLen) (hx : C.take m = xs) (H : Has (blk g C e :: l) h) : Has (row (.slice (some ⟨g, 0, none⟩) m c) e 1 m xs :: l) h := by
  subst hx
  refine Has.weaken (fun k hk => ?_) H
  refine ⟨by rw [List.length_take]; omega, .inr ⟨g, c, C.toArray, rfl, hk, hm, hc, by simp [hC], by simp⟩⟩
end
theorem RdV.part1 {B : Base} {S : List Assn} {g o m c : Nat} {C : List Value} [k : Rd B g S C] (h : o + m ≤ C.length) : RdV B S (.slice (some ⟨g, o, none⟩) m c) ((C.drop o).take m) := by
  have hl : ((C.drop o).take m).length = m := by rw [List.length_take, List.length_drop]; omega
  refine ⟨_, c, by rw [hl], .inr ⟨g, o, rfl, fun w ho => ho.range fun j v hj => ?_⟩⟩
  rw [List.getElem?_take] at hj
  split at hj
  · rwa [List.getElem?_drop] at hj
  · cases hj
theorem RdV.one {B : Base} {g c : Nat} {x : Value} {t : TypeId} : RdV B [blk g [x] t] (.slice (some ⟨g, 0, none⟩) 1 c) [x] := ⟨_, c, rfl, .inr ⟨g, 0, rfl, fun w ho => ho.range (C := [x]) fun j v hj => by rw [Nat.zero_add]; exact hj⟩⟩
theorem splice_at {α : Type} (A Y Z : List α) (cs : List α) (o : Nat) (h1 : A.length = o) (h2 : Y.length = cs.length) : splice (A ++ (Y ++ Z)) o cs = A ++ (cs ++ Z) := by
  unfold splice
  subst h1
  rw [List.take_left, ← h2, ← List.append_assoc, show A.length + Y.length = (A ++ Y).length by simp, ← List.append_assoc A Y Z, List.drop_left]
  simp
theorem Lb.ins1 {C xs : List Value} {x z : Value} {i m : Nat} (hC : C.take m = xs) (hi : i < m) (hl : m ≤ C.length) : splice (splice (C.take i ++ List.replicate (m + 1 - i) z) i [x]) (i + 1) ((C.drop i).take (m - i)) = xs.take i ++ x :: xs.drop i := by
  subst hC
  have h1 : (C.take i).length = i := by rw [List.length_take]; omega
  have h2 : ((C.drop i).take (m - i)).length = m - i := by rw [List.length_take, List.length_drop]; omega
  rw [show m + 1 - i = (m - i) + 1 by omega, List.replicate_succ]
  have e1 := splice_at (C.take i) [z] (List.replicate (m - i) z) [x] i h1 rfl
  rw [List.singleton_append] at e1
  rw [e1]
  have e2 := splice_at (C.take i ++ [x]) (List.replicate (m - i) z) [] ((C.drop i).take (m - i)) (i + 1) (by simp [h1]) (by rw [h2, List.length_replicate])
  simp only [List.append_nil, List.append_assoc] at e2
  rw [e2, List.take_take, Nat.min_eq_left (by omega), List.drop_take]
  rfl
theorem Lb.ins2 {C xs : List Value} {x : Value} {i m : Nat} (hC : C.take m = xs) (hi : i < m) (hl : m + 1 ≤ C.length) : (splice (splice C (i + 1) ((C.drop i).take (m - i))) i [x]).take (m + 1) = xs.take i ++ x :: xs.drop i := by
  subst hC
  have h1 : (C.take i).length = i := by rw [List.length_take]; omega
  have h2 : ((C.drop i).take (m - i)).length = m - i := by rw [List.length_take, List.length_drop]; omega
  have ex : C = (C.take i ++ (C.drop i).take 1) ++ ((C.drop (i + 1)).take (m - i) ++ C.drop (m + 1)) := by
    have q1 : C = C.take i ++ C.drop i := (List.take_append_drop i C).symm
    have q2 : C.drop i = (C.drop i).take 1 ++ C.drop (i + 1) := by rw [← List.drop_drop (i := 1), List.take_append_drop]
    have q3 : C.drop (i + 1) = (C.drop (i + 1)).take (m - i) ++ C.drop (m + 1) := by
      have := (List.take_append_drop (m - i) (C.drop (i + 1))).symm
      rw [List.drop_drop, show i + 1 + (m - i) = m + 1 by omega] at this
      exact this
    conv => lhs; rw [q1, q2, q3]
    simp
  have e1 : splice C (i + 1) ((C.drop i).take (m - i)) = (C.take i ++ (C.drop i).take 1) ++ ((C.drop i).take (m - i) ++ C.drop (m + 1)) := by
    conv => lhs; arg 1; rw [ex]
    exact splice_at _ _ _ _ _ (by rw [List.length_append, h1, List.length_take, List.length_drop]; omega) (by rw [h2, List.length_take, List.length_drop]; omega)
  rw [e1, List.append_assoc]
  rw [splice_at (C.take i) ((C.drop i).take 1) _ [x] i h1 (by rw [List.length_take, List.length_drop]; simp; omega)]
  have e3 : C.take i ++ ([x] ++ ((C.drop i).take (m - i) ++ C.drop (m + 1))) = (C.take i ++ ([x] ++ (C.drop i).take (m - i))) ++ C.drop (m + 1) := by simp
  rw [e3, List.take_left' (by simp [h1, h2]; omega), List.take_take, Nat.min_eq_left (by omega), List.drop_take]
  rfl
theorem RdV.from1 {B : Base} {S : List Assn} {g lo m c cc : Nat} {C : List Value} [k : Rd B g S C] (h : m ≤ C.length) (hc : m ≤ c) : RdV B S (.slice (offA (some ⟨g, 0, none⟩) c lo 1) (m - lo) cc) ((C.drop lo).take (m - lo)) := by
  by_cases hl : lo < m
  · rw [offA_one (by omega)]
    exact RdV.part1 (by omega)
  · rw [show m - lo = 0 by omega, List.take_zero]
    exact RdV.empty _ _ _
theorem Lb.del1 {C xs : List Value} {z : Value} {i m : Nat} (hC : C.take m = xs) (hi : i < m) (hl : m ≤ C.length) : (splice (splice C i ((C.drop (i + 1)).take (m - (i + 1)))) (m - 1) (List.replicate 1 z)).take (m - 1) = xs.eraseIdx i := by
  subst hC
  have h1 : (C.take i).length = i := by rw [List.length_take]; omega
  have h2 : ((C.drop (i + 1)).take (m - (i + 1))).length = m - (i + 1) := by rw [List.length_take, List.length_drop]; omega
  have e1 : (splice C i ((C.drop (i + 1)).take (m - (i + 1)))).take (m - 1) = C.take i ++ (C.drop (i + 1)).take (m - (i + 1)) := by
    unfold splice
    rw [← List.append_assoc, List.take_left' (by rw [List.length_append, h1, h2]; omega)]
  have e2 : ∀ D : List Value, m - 1 ≤ D.length → (splice D (m - 1) (List.replicate 1 z)).take (m - 1) = D.take (m - 1) := by
    intro D hD
    unfold splice
    rw [List.take_left' (by rw [List.length_take]; omega)]
  rw [e2 _ (by rw [length_splice _ _ _ (by rw [h2]; omega)]; omega), e1, List.eraseIdx_eq_take_drop_succ, List.take_take, Nat.min_eq_left (by omega), List.drop_take]

theorem Lb.elemS : ElemOk Try.prog 22 9 1 16 := ElemOk.mk' (.string .empty) (by kernel_rfl) (by kernel_rfl) rfl (by decide)
theorem Lb.insertS (B : Base) (p : Option Addr) (m c i g : Nat) (xs : List Value) (x : Value) (hm : xs.length = m) (hi : i ≤ m) (hs : m < 2 ^ 40) (hx : x.oneCell' = true) (hxs : ∀ v ∈ xs, v.oneCell' = true) :
  Fn Try.prog B 46 #[.slice p m c, .int .i64 i, .slice (some ⟨g, 0, none⟩) 1 1] [row (.slice p m c) 9 1 m xs, blk g [x] 9] (fun v l => ∃ q c', v = .slice q (m + 1) c' ∧ (∃ h, q = some ⟨h, 0, none⟩) ∧ l = [row (.slice q (m + 1) c') 9 1 (m + 1) (xs.take i ++ x :: xs.drop i)]) := by
 refine Fn.enter3 95 Try.func46 rfl rfl (Nat.le_of_ble_eq_true rfl) (fun F => ?_)
 try simp only [List.cons_append, List.nil_append]
 refine T.seq ?_
 refine T.region ?_
 refine LW.q rfl (Qt.assign rfl) ?_
 refine LW.done ?_
 refine T.seq ?_
 refine T.region ?_
 refine LW.q rfl (Qt.move rfl) ?_
 refine LW.q rfl (Qt.move rfl) ?_
 refine LW.q rfl (Qt.slice_snn i (e := 9) (sz := 1) (by kernel_rfl) rfl rfl rfl (by omega)) ?_
 refine LW.done ?_
 refine T.seq ?_
 refine T.region ?_
 refine LW.q rfl (Qt.move rfl) ?_
 refine LW.q rfl (Qt.len (e := 9) (sz := 1) (by kernel_rfl) rfl) ?_
 refine LW.q rfl (Qt.assign rfl) ?_
 refine LW.done ?_
 refine T.seq ?_
 refine T.seq ?_
 refine T.region ?_
 refine LW.q rfl (Qt.move rfl) ?_
 refine LW.q rfl (Qt.eql rfl rfl) ?_
 refine LW.done ?_
 have hp := fun (w : World) (ho : Own B w (row (.slice p m c) 9 1 m xs :: blk g [x] 9 :: F)) => ho.slice_at (p := p) (m := m) (c := c)
 refine T.own fun w0 ho0 => ?_
 have hp := ho0.slice_at (p := p) (m := m) (c := c) (k := m)
 have hcap : m ≤ c := ho0.cap_at (p := p) (m := m) (c := c) (k := m)
 clear ho0
 first | refine T.condF rfl ?_ | refine T.condPF rfl (by omega) ?_ | refine T.condBF rfl (by omega) ?_
 refine T.skip ?_
 refine T.seq ?_
 refine T.region ?_
 refine LW.q rfl (Qt.move rfl) ?_
 refine LW.q rfl (Qt.len (e := 9) (sz := 1) (by kernel_rfl) rfl) ?_
 refine LW.q rfl (Qt.assign rfl) ?_
 refine LW.done ?_
 refine T.seq ?_
 refine T.seq ?_
 refine T.region ?_
 refine LW.q rfl (Qt.move rfl) ?_
 refine LW.q rfl (Qt.move rfl) ?_
 refine LW.q rfl (Qt.eql rfl rfl) ?_
 refine LW.done ?_
 refine T.condP rfl (fun hi2 => ?_) (fun hi2 => ?_)
 ·
  refine T.seq ?_
  refine T.region ?_
  refine LW.q rfl (Qt.move rfl) ?_
  refine LW.q rfl (Qt.move rfl) ?_
  refine LW.e rfl (Ef.append Lb.elemS rfl rfl (SrcOf.blk (by kernel_rfl) rfl (by simp [hx])) (by unfold maxLen; omega) (by omega) ?_)
  rintro p1 c1 hp1
  try simp only [List.cons_append, List.nil_append]
  refine LW.q rfl (Qt.assign rfl) ?_
  refine LW.done ?_
  refine T.ret ?_
  exact ⟨.inl rfl, _, _, res [_] rfl ⟨rvT rfl, trivial⟩, ⟨_, _, rfl, hp1 (by omega), by rw [show i = m by omega, List.take_of_length_le (by omega), List.drop_of_length_le (by omega)]⟩, Sub.any⟩
 ·
  obtain ⟨g0, rfl⟩ := hp.2.1 (by omega)
  refine T.ex (fun w ho => ho.openRow) fun C => ?_
  refine T.own fun w1 ho1 => ?_
  obtain ⟨hC1, hC2, hC3, hC4⟩ := ho1.has.elim fun h H => (Has.open_pu H.2.2).1
  refine T.conv (fun w ho => ho.tl) ?_
  clear ho1
  refine T.skip ?_
  refine T.seq ?_
  refine T.seq ?_
  refine T.region ?_
  refine LW.q rfl (Qt.move rfl) ?_
  refine LW.q rfl (Qt.move rfl) ?_
  refine LW.q rfl (Qt.add rfl rfl (wr64 (by omega) (by omega))) ?_
  refine LW.q rfl (Qt.move rfl) ?_
  refine LW.q rfl (Qt.cap (e := 9) (sz := 1) (by kernel_rfl) rfl) ?_
  refine LW.q rfl (Qt.gtr rfl rfl) ?_
  refine LW.done ?_
  refine T.condP rfl (fun hroom => ?_) (fun hroom => ?_)
  ·
   refine T.seq ?_
   refine T.region ?_
   refine LW.q rfl (Qt.move rfl) ?_
   refine LW.q rfl (Qt.move rfl) ?_
   refine LW.q rfl (Qt.slice_nsn i (e := 9) (sz := 1) (by kernel_rfl) rfl rfl rfl (by omega)) ?_
   refine LW.q rfl (Qt.move rfl) ?_
   refine LW.q rfl (Qt.move rfl) ?_
   refine LW.q rfl (Qt.add rfl rfl (wr64 (by omega) (by omega))) ?_
   refine LW.q rfl (Qt.move rfl) ?_
   refine LW.q rfl (Qt.sub rfl rfl (wr64 (by omega) (by omega))) ?_
   refine LW.e rfl (Ef.appendZG (m := m + 1 - i) (ki := .i64) (.string .empty) (.string .empty) Lb.elemS (by kernel_rfl) (by kernel_rfl) rfl rfl rfl (by omega) (by omega) (by omega) (by omega) (by unfold maxLen; omega) (by omega) ?_)
   rintro g2 c2 hc2
   try simp only [List.cons_append, List.nil_append]
   rw [show i + (m + 1 - i) = m + 1 by omega]
   refine LW.q rfl (Qt.assign rfl) ?_
   refine LW.done ?_
   refine T.seq ?_
   refine T.region ?_
   refine LW.q rfl (Qt.move rfl) ?_
   refine LW.q rfl (Qt.move rfl) ?_
   refine LW.q rfl (Qt.sliceE_snn i (some ⟨g2, i, none⟩) (m + 1 - i) (c2 - i) (e := 9) (sz := 1) (by kernel_rfl) rfl rfl rfl (by omega) (offA_one (by omega)) (by omega) rfl) ?_
   refine LW.q rfl (Qt.move rfl) ?_
   refine LW.e rfl (Ef.copy (e := 9) (C := C.take i ++ List.replicate (m + 1 - i) (.string .empty)) (cs := [x]) (src := [x]) (by kernel_rfl) rfl rfl ((RdV.one (g := g) (x := x) (t := 9)).mono (fun w ho => ho.map Sub.any)) 1 (Nat.min_eq_left (by omega)).symm (by omega) rfl rfl (by simp [hx]) (by simp; omega) ?_)
   try simp only [List.cons_append, List.nil_append]
   refine LW.done ?_
   refine T.seq ?_
   refine T.drawBl 9 none (by kernel_rfl) (Nat.le_of_ble_eq_true rfl) (by kernel_rfl) ?_
   refine RW.q 0 rfl rfl (by kernel_rfl) Sub.any (Qt.move rfl) ?_
   refine RW.q 1 rfl rfl (by kernel_rfl) Sub.any (Qt.move rfl) ?_
   refine RW.q 2 rfl rfl (by kernel_rfl) Sub.any (Qt.move rfl) ?_
   refine RW.q 3 rfl rfl (by kernel_rfl) Sub.any (Qt.add rfl rfl (wr64 (by omega) (by omega))) ?_
   refine RW.q 4 rfl rfl (by kernel_rfl) Sub.any (Qt.sliceE_snn (i + 1) (some ⟨g2, i + 1, none⟩) (m - i) (c2 - (i + 1)) (e := 9) (sz := 1) (by kernel_rfl) rfl rfl rfl (by omega) (offA_one (by omega)) (by omega) rfl) ?_
   refine RW.q 5 rfl rfl (by kernel_rfl) Sub.any (Qt.move rfl) ?_
   refine RW.q 6 rfl rfl (by kernel_rfl) Sub.any (Qt.move rfl) ?_
   refine RW.q 7 rfl rfl (by kernel_rfl) Sub.any (Qt.sliceE_snn i (some ⟨g0, i, none⟩) (m - i) (c - i) (e := 9) (sz := 1) (by kernel_rfl) rfl rfl rfl (by omega) (offA_one (by omega)) rfl rfl) ?_
   refine RW.one 8 (by kernel_rfl) ?_
   refine RO.r rfl rfl (by kernel_rfl) (Ef.copy (e := 9) (C := splice (C.take i ++ List.replicate (m + 1 - i) (.string .empty)) i [x]) (cs := (C.drop i).take (m - i)) (src := (C.drop i).take (m - i)) (by kernel_rfl) rfl rfl (RdV.part1 (by omega)) (m - i) (by simp) (by omega) (by rw [List.take_take, Nat.min_self]) (by simp; omega) (by intro v hv; rw [← List.drop_take, hC2] at hv; exact hxs v (List.mem_of_mem_drop hv)) (by rw [length_splice _ _ _ (by simp; omega)]; simp; omega) ?_)
   try simp only [List.cons_append, List.nil_append]
   rw [Lb.ins1 hC2 (by omega) (by omega)]
   refine RW.done (by rfl) ?_
   simp only [List.drop_succ_cons, List.drop_zero, List.drop_nil]
   refine LW.done ?_
   refine T.seq ?_
   refine T.region ?_
   refine LW.q rfl (Qt.move rfl) ?_
   refine LW.q rfl (Qt.assign rfl) ?_
   refine LW.done ?_
   refine T.ret ?_
   exact ⟨.inl rfl, _, _, res [_] rfl ⟨rvT rfl, trivial⟩, ⟨_, _, rfl, ⟨_, rfl⟩, rfl⟩, Sub.any⟩
  ·
   refine T.skip ?_
   refine T.seq ?_
   refine T.region ?_
   refine LW.q rfl (Qt.move rfl) ?_
   refine LW.q rfl (Qt.move rfl) ?_
   refine LW.q rfl (Qt.move rfl) ?_
   refine LW.q rfl (Qt.add rfl rfl (wr64 (by omega) (by omega))) ?_
   refine LW.q rfl (Qt.slice_nsn (m + 1) (e := 9) (sz := 1) (by kernel_rfl) rfl rfl (by omega) (by omega)) ?_
   refine LW.q rfl (Qt.assign rfl) ?_
   refine LW.done ?_
   refine T.seq ?_
   refine T.seq ?_
   refine T.region ?_
   refine LW.q rfl (Qt.move rfl) ?_
   refine LW.q rfl (Qt.move rfl) ?_
   refine LW.q rfl (Qt.move rfl) ?_
   refine LW.q rfl (Qt.move rfl) ?_
   refine LW.q rfl (Qt.add rfl rfl (wr64 (by omega) (by omega))) ?_
   refine LW.q rfl (Qt.sliceE_snn (i + 1) (some ⟨g0, i + 1, none⟩) (m - i) (c - (i + 1)) (e := 9) (sz := 1) (by kernel_rfl) rfl rfl rfl (by omega) (offA_one (by omega)) (by omega) rfl) ?_
   refine LW.e rfl (Ef.overlapsNo (tS := 22) (Ca := [x]) (Cb := C) (ta := 9) (tb := 9) (tR := 4) (e := 9) Try.func73 (by kernel_rfl) (by kernel_rfl) (by kernel_rfl) (by kernel_rfl) (by kernel_rfl) rfl rfl (by intro e; rw [e] at hC1; simp at hC1; omega) ?_)
   first | refine LW.q rfl (Qt.notP rfl) ?_ | refine LW.q rfl (Qt.notB rfl) ?_
   refine LW.done ?_
   first | refine T.condT rfl ?_ | refine T.condPT rfl (rfl) ?_ | refine T.condBT rfl (rfl) ?_
   refine T.seq ?_
   refine T.draw 9 ([blk g [x] 9]) (by kernel_rfl) (Nat.le_of_ble_eq_true rfl) (by kernel_rfl) ?_
   refine RW.q 0 rfl rfl (by kernel_rfl) Sub.any (Qt.move rfl) ?_
   refine RW.q 1 rfl rfl (by kernel_rfl) Sub.any (Qt.move rfl) ?_
   refine RW.q 2 rfl rfl (by kernel_rfl) Sub.any (Qt.move rfl) ?_
   refine RW.q 3 rfl rfl (by kernel_rfl) Sub.any (Qt.add rfl rfl (wr64 (by omega) (by omega))) ?_
   refine RW.q 4 rfl rfl (by kernel_rfl) Sub.any (Qt.sliceE_snn (i + 1) (some ⟨g0, i + 1, none⟩) (m - i) (c - (i + 1)) (e := 9) (sz := 1) (by kernel_rfl) rfl rfl rfl (by omega) (offA_one (by omega)) (by omega) rfl) ?_
   refine RW.q 5 rfl rfl (by kernel_rfl) Sub.any (Qt.move rfl) ?_
   refine RW.q 6 rfl rfl (by kernel_rfl) Sub.any (Qt.move rfl) ?_
   refine RW.q 7 rfl rfl (by kernel_rfl) Sub.any (Qt.sliceE_snn i (some ⟨g0, i, none⟩) (m + 1 - i) (c - i) (e := 9) (sz := 1) (by kernel_rfl) rfl rfl rfl (by omega) (offA_one (by omega)) rfl rfl) ?_
   refine RW.one 8 (by kernel_rfl) ?_
   refine RO.r rfl rfl (by kernel_rfl) (Ef.copyT (e := 9) (C := C) (cs := (C.drop i).take (m - i)) (src := (C.drop i).take (m + 1 - i)) (by kernel_rfl) rfl rfl (RdV.part1 (by omega)) (m - i) (Nat.min_eq_right (by omega)).symm (by omega) (by rw [List.take_take, Nat.min_eq_left (by omega)]) (by simp; omega) (by intro v hv; rw [← List.drop_take, hC2] at hv; exact hxs v (List.mem_of_mem_drop hv)) (by omega) ?_)
   try simp only [List.cons_append, List.nil_append]
   refine RW.done (by rfl) ?_
   simp only [List.drop_succ_cons, List.drop_zero, List.drop_nil]
   refine LW.done ?_
   refine T.seq ?_
   refine T.region ?_
   refine LW.q rfl (Qt.move rfl) ?_
   refine LW.q rfl (Qt.move rfl) ?_
   refine LW.q rfl (Qt.sliceE_snn i (some ⟨g0, i, none⟩) (m + 1 - i) (c - i) (e := 9) (sz := 1) (by kernel_rfl) rfl rfl rfl (by omega) (offA_one (by omega)) rfl rfl) ?_
   refine LW.q rfl (Qt.move rfl) ?_
   refine LW.e rfl (Ef.copy (e := 9) (C := splice C (i + 1) ((C.drop i).take (m - i))) (cs := [x]) (src := [x]) (by kernel_rfl) rfl rfl ((RdV.one (g := g) (x := x) (t := 9)).mono (fun w ho => ho.map Sub.any)) 1 (Nat.min_eq_left (by omega)).symm (by omega) rfl rfl (by simp [hx]) (by rw [length_splice _ _ _ (by simp; omega)]; omega) ?_)
   try simp only [List.cons_append, List.nil_append]
   refine LW.done ?_
   refine T.seq ?_
   refine T.region ?_
   refine LW.q rfl (Qt.move rfl) ?_
   refine LW.q rfl (Qt.assign rfl) ?_
   refine LW.done ?_
   refine T.ret ?_
   exact ⟨.inl rfl, _, _, res [_] rfl ⟨rvT rfl, trivial⟩, ⟨_, _, rfl, ⟨_, rfl⟩, rfl⟩, (fun h H => Has.cons_imp (fun _ k => k.tail) (Has.closeRow (by rw [length_splice _ _ _ (by rw [length_splice _ _ _ (by simp; omega)]; simp; omega), length_splice _ _ _ (by simp; omega), hC1]) (by omega) hC4 (Lb.ins2 hC2 (by omega) (by omega)) H))⟩

theorem Lb.deleteS (B : Base) (p : Option Addr) (m c i : Nat) (xs : List Value) (hm : xs.length = m) (hi : i < m) (hs : m < 2 ^ 40) (hxs : ∀ v ∈ xs, v.oneCell' = true) :
    Fn Try.prog B 77 #[.slice p m c, .int .i64 i, .int .i64 (i + 1 : Nat)] [row (.slice p m c) 9 1 m xs] (fun v l => v = .slice p (m - 1) c ∧ l = [row (.slice p (m - 1) c) 9 1 (m - 1) (xs.eraseIdx i)]) := by
  refine Fn.enter3 33 Try.func77 rfl rfl (Nat.le_of_ble_eq_true rfl) (fun F => ?_)
  try simp only [List.cons_append, List.nil_append]
  refine T.own fun w0 ho0 => ?_
  have hp := ho0.slice_at (p := p) (m := m) (c := c) (k := m)
  clear ho0
  obtain ⟨g0, rfl⟩ := hp.2.1 (by omega)
  refine T.ex (fun w ho => ho.openRow) fun C => ?_
  refine T.own fun w1 ho1 => ?_
  obtain ⟨hC1, hC2, hC3, hC4⟩ := ho1.has.elim fun h H => (Has.open_pu H.2.2).1
  refine T.conv (fun w ho => ho.tl) ?_
  clear ho1
  refine T.seq ?_
  refine T.region ?_
  refine LW.q rfl (Qt.assign rfl) ?_
  refine LW.done ?_
  refine T.seq ?_
  refine T.region ?_
  refine LW.q rfl (Qt.move rfl) ?_
  refine LW.q rfl (Qt.move rfl) ?_
  refine LW.q rfl (Qt.move rfl) ?_
  refine LW.q rfl (Qt.move rfl) ?_
  refine LW.q rfl (Qt.len (e := 9) (sz := 1) (by kernel_rfl) rfl) ?_
  refine LW.q rfl (Qt.slice_sss i (i + 1) m (e := 9) (sz := 1) (by kernel_rfl) rfl rfl rfl rfl rfl rfl rfl (by omega) (by omega) (by omega)) ?_
  refine LW.done ?_
  refine T.seq ?_
  refine T.seq ?_
  refine T.region ?_
  refine LW.q rfl (Qt.move rfl) ?_
  refine LW.q rfl (Qt.move rfl) ?_
  refine LW.q rfl (Qt.eql rfl rfl) ?_
  refine LW.done ?_
  first | refine T.condF rfl ?_ | refine T.condPF rfl (by omega) ?_ | refine T.condBF rfl (by omega) ?_
  refine T.skip ?_
  refine T.seq ?_
  refine T.region ?_
  refine LW.q rfl (Qt.move rfl) ?_
  refine LW.q rfl (Qt.len (e := 9) (sz := 1) (by kernel_rfl) rfl) ?_
  refine LW.q rfl (Qt.assign rfl) ?_
  refine LW.done ?_
  refine T.seq ?_
  refine T.draw 7 ([]) (by kernel_rfl) (Nat.le_of_ble_eq_true rfl) (by kernel_rfl) ?_
  refine RW.q 0 rfl rfl (by kernel_rfl) Sub.any (Qt.move rfl) ?_
  refine RW.q 1 rfl rfl (by kernel_rfl) Sub.any (Qt.move rfl) ?_
  refine RW.q 2 rfl rfl (by kernel_rfl) Sub.any (Qt.slice_nsn i (e := 9) (sz := 1) (by kernel_rfl) rfl rfl rfl (by omega)) ?_
  refine RW.q 3 rfl rfl (by kernel_rfl) Sub.any (Qt.move rfl) ?_
  refine RW.q 4 rfl rfl (by kernel_rfl) Sub.any (Qt.move rfl) ?_
  refine RW.q 5 rfl rfl (by kernel_rfl) Sub.any (Qt.slice_snn (i + 1) (e := 9) (sz := 1) (by kernel_rfl) rfl rfl rfl (by omega)) ?_
  refine RW.one 6 (by kernel_rfl) ?_
  refine RO.r rfl rfl (by kernel_rfl) (Ef.appendB (C := C) (m := m - (i + 1)) (news := (C.drop (i + 1)).take (m - (i + 1))) Lb.elemS rfl rfl (SrcOf.rd (RdV.from1 (by omega) (by omega)) (by kernel_rfl) (by simp; omega) (by intro v hv; rw [← List.drop_take, hC2] at hv; exact hxs v (List.mem_of_mem_drop hv))) (by omega) (by omega) ?_)
  try simp only [List.cons_append, List.nil_append]
  rw [show i + (m - (i + 1)) = m - 1 by omega]
  refine RW.done (by rfl) ?_
  simp only [List.drop_succ_cons, List.drop_zero, List.drop_nil]
  refine LW.q rfl (Qt.assign rfl) ?_
  refine LW.done ?_
  refine T.seq ?_
  refine T.region ?_
  refine LW.q rfl (Qt.move rfl) ?_
  refine LW.q rfl (Qt.move rfl) ?_
  refine LW.q rfl (Qt.len (e := 9) (sz := 1) (by kernel_rfl) rfl) ?_
  refine LW.q rfl (Qt.move rfl) ?_
  refine LW.q rfl (Qt.sliceE_ssn (m - 1) m (some ⟨g0, m - 1, none⟩) 1 (c - (m - 1)) (e := 9) (sz := 1) (by kernel_rfl) rfl rfl rfl rfl rfl (by omega) (by omega) (offA_one (by omega)) (by omega) rfl) ?_
  refine LW.e0 rfl (Ef.clear (e := 9) (C := splice C i ((C.drop (i + 1)).take (m - (i + 1)))) (.string .empty) (by kernel_rfl) (by kernel_rfl) rfl rfl rfl (by omega) (by rw [length_splice _ _ _ (by simp; omega)]; omega) ?_)
  try simp only [List.cons_append, List.nil_append]
  refine LW.done ?_
  refine T.seq ?_
  refine T.region ?_
  refine LW.q rfl (Qt.move rfl) ?_
  refine LW.q rfl (Qt.assign rfl) ?_
  refine LW.done ?_
  refine T.ret ?_
  exact ⟨.inl rfl, _, _, res [_] rfl ⟨rvT rfl, trivial⟩, ⟨rfl, rfl⟩, (fun h H => Has.closeRow (by rw [length_splice _ _ _ (by rw [length_splice _ _ _ (by simp; omega)]; simp; omega), length_splice _ _ _ (by simp; omega), hC1]) (by omega) hC4 (Lb.del1 hC2 hi (by omega)) H)⟩
theorem Lb.cloneS (B : Base) (S : List Assn) (v : Value) (xs : List Value) (m : Nat) (hm : xs.length = m) (hv : RdV B S v xs) (hb : m < 2 ^ 40) (hxs : ∀ v ∈ xs, v.oneCell' = true) : Fn Try.prog B 68 #[v] S (fun u l => ∃ p c, u = .slice p m c ∧ l = row (.slice p m c) 9 1 m xs :: S) := by
 subst hm
 obtain ⟨a, c, rfl⟩ := hv.form (m := xs.length) rfl
 refine Fn.enter1 8 Try.func68 rfl rfl (Nat.le_of_ble_eq_true rfl) (fun F => ?_)
 try simp only [List.cons_append, List.nil_append]
 refine T.seq ?_
 refine T.region ?_
 refine LW.q rfl (Qt.assign rfl) ?_
 refine LW.done ?_
 refine T.seq ?_
 refine T.seq ?_
 refine T.region ?_
 refine LW.q rfl (Qt.move rfl) ?_
 refine LW.q rfl (Qt.eqlSl (by kernel_rfl) rfl rfl) ?_
 refine LW.done ?_
 refine T.cond rfl (fun h => ?_) (fun h => ?_)
 ·
  have hb0 : xs = [] := by rcases Nat.eq_zero_or_pos xs.length with h0 | h0; exact List.eq_nil_of_length_eq_zero h0; obtain ⟨g, o, rfl, _⟩ := hv.at h0; cases h
  subst hb0
  refine T.conv (l' := row (.slice none ([] : List Value).length 0) 9 1 ([] : List Value).length [] :: (S ++ F)) (fun w ho => ho.row_nil _ _) ?_
  refine T.seq ?_
  refine T.region ?_
  refine LW.q rfl (Qt.assign rfl) ?_
  refine LW.done ?_
  refine T.ret ?_
  exact ⟨.inl rfl, _, _, res [_] rfl ⟨rvT rfl, trivial⟩, ⟨none, 0, rfl, rfl⟩, Sub.any⟩
 ·
  refine T.skip ?_
  refine T.seq ?_
  refine T.region ?_
  refine LW.e rfl (Ef.empty Lb.elemS ?_)
  rintro g5
  try simp only [List.cons_append, List.nil_append]
  refine LW.q rfl (Qt.move rfl) ?_
  refine LW.e rfl (Ef.append Lb.elemS rfl rfl (SrcOf.rd (m := xs.length) (hv.mono (fun w ho => ho.tl.drop)) (by kernel_rfl) rfl hxs) (by unfold maxLen; omega) (by omega) ?_)
  rintro p1 c1 hp1
  try simp only [List.cons_append, List.nil_append]
  simp only [Nat.zero_add, List.nil_append]
  refine LW.q rfl (Qt.assign rfl) ?_
  refine LW.done ?_
  refine T.ret ?_
  exact ⟨.inl rfl, _, _, res [_] rfl ⟨rvT rfl, trivial⟩, ⟨_, _, rfl, rfl⟩, Sub.any⟩

theorem Lb.elemI : ElemOk Try.prog 62 2 1 8 := ElemOk.mk' (.int .i64 0) (by kernel_rfl) (by kernel_rfl) rfl (by decide)
theorem Lb.insertI (B : Base) (p : Option Addr) (m c i g : Nat) (xs : List Value) (x : Value) (hm : xs.length = m) (hi : i ≤ m) (hs : m < 2 ^ 40) (hx : x.oneCell' = true) (hxs : ∀ v ∈ xs, v.oneCell' = true) :
  Fn Try.prog B 47 #[.slice p m c, .int .i64 i, .slice (some ⟨g, 0, none⟩) 1 1] [row (.slice p m c) 2 1 m xs, blk g [x] 2] (fun v l => ∃ q c', v = .slice q (m + 1) c' ∧ (∃ h, q = some ⟨h, 0, none⟩) ∧ l = [row (.slice q (m + 1) c') 2 1 (m + 1) (xs.take i ++ x :: xs.drop i)]) := by
 refine Fn.enter3 95 Try.func47 rfl rfl (Nat.le_of_ble_eq_true rfl) (fun F => ?_)
 try simp only [List.cons_append, List.nil_append]
 refine T.seq ?_
 refine T.region ?_
 refine LW.q rfl (Qt.assign rfl) ?_
 refine LW.done ?_
 refine T.seq ?_
 refine T.region ?_
 refine LW.q rfl (Qt.move rfl) ?_
 refine LW.q rfl (Qt.move rfl) ?_
 refine LW.q rfl (Qt.slice_snn i (e := 2) (sz := 1) (by kernel_rfl) rfl rfl rfl (by omega)) ?_
 refine LW.done ?_
 refine T.seq ?_
 refine T.region ?_
 refine LW.q rfl (Qt.move rfl) ?_
 refine LW.q rfl (Qt.len (e := 2) (sz := 1) (by kernel_rfl) rfl) ?_
 refine LW.q rfl (Qt.assign rfl) ?_
 refine LW.done ?_
 refine T.seq ?_
 refine T.seq ?_
 refine T.region ?_
 refine LW.q rfl (Qt.move rfl) ?_
 refine LW.q rfl (Qt.eql rfl rfl) ?_
 refine LW.done ?_
 have hp := fun (w : World) (ho : Own B w (row (.slice p m c) 2 1 m xs :: blk g [x] 2 :: F)) => ho.slice_at (p := p) (m := m) (c := c)
 refine T.own fun w0 ho0 => ?_
 have hp := ho0.slice_at (p := p) (m := m) (c := c) (k := m)
 have hcap : m ≤ c := ho0.cap_at (p := p) (m := m) (c := c) (k := m)
 clear ho0
 first | refine T.condF rfl ?_ | refine T.condPF rfl (by omega) ?_ | refine T.condBF rfl (by omega) ?_
 refine T.skip ?_
 refine T.seq ?_
 refine T.region ?_
 refine LW.q rfl (Qt.move rfl) ?_
 refine LW.q rfl (Qt.len (e := 2) (sz := 1) (by kernel_rfl) rfl) ?_
 refine LW.q rfl (Qt.assign rfl) ?_
 refine LW.done ?_
 refine T.seq ?_
 refine T.seq ?_
 refine T.region ?_
 refine LW.q rfl (Qt.move rfl) ?_
 refine LW.q rfl (Qt.move rfl) ?_
 refine LW.q rfl (Qt.eql rfl rfl) ?_
 refine LW.done ?_
 refine T.condP rfl (fun hi2 => ?_) (fun hi2 => ?_)
 ·
  refine T.seq ?_
  refine T.region ?_
  refine LW.q rfl (Qt.move rfl) ?_
  refine LW.q rfl (Qt.move rfl) ?_
  refine LW.e rfl (Ef.append Lb.elemI rfl rfl (SrcOf.blk (by kernel_rfl) rfl (by simp [hx])) (by unfold maxLen; omega) (by omega) ?_)
  rintro p1 c1 hp1
  try simp only [List.cons_append, List.nil_append]
  refine LW.q rfl (Qt.assign rfl) ?_
  refine LW.done ?_
  refine T.ret ?_
  exact ⟨.inl rfl, _, _, res [_] rfl ⟨rvT rfl, trivial⟩, ⟨_, _, rfl, hp1 (by omega), by rw [show i = m by omega, List.take_of_length_le (by omega), List.drop_of_length_le (by omega)]⟩, Sub.any⟩
 ·
  obtain ⟨g0, rfl⟩ := hp.2.1 (by omega)
  refine T.ex (fun w ho => ho.openRow) fun C => ?_
  refine T.own fun w1 ho1 => ?_
  obtain ⟨hC1, hC2, hC3, hC4⟩ := ho1.has.elim fun h H => (Has.open_pu H.2.2).1
  refine T.conv (fun w ho => ho.tl) ?_
  clear ho1
  refine T.skip ?_
  refine T.seq ?_
  refine T.seq ?_
  refine T.region ?_
  refine LW.q rfl (Qt.move rfl) ?_
  refine LW.q rfl (Qt.move rfl) ?_
  refine LW.q rfl (Qt.add rfl rfl (wr64 (by omega) (by omega))) ?_
  refine LW.q rfl (Qt.move rfl) ?_
  refine LW.q rfl (Qt.cap (e := 2) (sz := 1) (by kernel_rfl) rfl) ?_
  refine LW.q rfl (Qt.gtr rfl rfl) ?_
  refine LW.done ?_
  refine T.condP rfl (fun hroom => ?_) (fun hroom => ?_)
  ·
   refine T.seq ?_
   refine T.region ?_
   refine LW.q rfl (Qt.move rfl) ?_
   refine LW.q rfl (Qt.move rfl) ?_
   refine LW.q rfl (Qt.slice_nsn i (e := 2) (sz := 1) (by kernel_rfl) rfl rfl rfl (by omega)) ?_
   refine LW.q rfl (Qt.move rfl) ?_
   refine LW.q rfl (Qt.move rfl) ?_
   refine LW.q rfl (Qt.add rfl rfl (wr64 (by omega) (by omega))) ?_
   refine LW.q rfl (Qt.move rfl) ?_
   refine LW.q rfl (Qt.sub rfl rfl (wr64 (by omega) (by omega))) ?_
   refine LW.e rfl (Ef.appendZG (m := m + 1 - i) (ki := .i64) (.int .i64 0) (.int .i64 0) Lb.elemI (by kernel_rfl) (by kernel_rfl) rfl rfl rfl (by omega) (by omega) (by omega) (by omega) (by unfold maxLen; omega) (by omega) ?_)
   rintro g2 c2 hc2
   try simp only [List.cons_append, List.nil_append]
   rw [show i + (m + 1 - i) = m + 1 by omega]
   refine LW.q rfl (Qt.assign rfl) ?_
   refine LW.done ?_
   refine T.seq ?_
   refine T.region ?_
   refine LW.q rfl (Qt.move rfl) ?_
   refine LW.q rfl (Qt.move rfl) ?_
   refine LW.q rfl (Qt.sliceE_snn i (some ⟨g2, i, none⟩) (m + 1 - i) (c2 - i) (e := 2) (sz := 1) (by kernel_rfl) rfl rfl rfl (by omega) (offA_one (by omega)) (by omega) rfl) ?_
   refine LW.q rfl (Qt.move rfl) ?_
   refine LW.e rfl (Ef.copy (e := 2) (C := C.take i ++ List.replicate (m + 1 - i) (.int .i64 0)) (cs := [x]) (src := [x]) (by kernel_rfl) rfl rfl ((RdV.one (g := g) (x := x) (t := 2)).mono (fun w ho => ho.map Sub.any)) 1 (Nat.min_eq_left (by omega)).symm (by omega) rfl rfl (by simp [hx]) (by simp; omega) ?_)
   try simp only [List.cons_append, List.nil_append]
   refine LW.done ?_
   refine T.seq ?_
   refine T.drawBl 9 none (by kernel_rfl) (Nat.le_of_ble_eq_true rfl) (by kernel_rfl) ?_
   refine RW.q 0 rfl rfl (by kernel_rfl) Sub.any (Qt.move rfl) ?_
   refine RW.q 1 rfl rfl (by kernel_rfl) Sub.any (Qt.move rfl) ?_
   refine RW.q 2 rfl rfl (by kernel_rfl) Sub.any (Qt.move rfl) ?_
   refine RW.q 3 rfl rfl (by kernel_rfl) Sub.any (Qt.add rfl rfl (wr64 (by omega) (by omega))) ?_
   refine RW.q 4 rfl rfl (by kernel_rfl) Sub.any (Qt.sliceE_snn (i + 1) (some ⟨g2, i + 1, none⟩) (m - i) (c2 - (i + 1)) (e := 2) (sz := 1) (by kernel_rfl) rfl rfl rfl (by omega) (offA_one (by omega)) (by omega) rfl) ?_
   refine RW.q 5 rfl rfl (by kernel_rfl) Sub.any (Qt.move rfl) ?_
   refine RW.q 6 rfl rfl (by kernel_rfl) Sub.any (Qt.move rfl) ?_
   refine RW.q 7 rfl rfl (by kernel_rfl) Sub.any (Qt.sliceE_snn i (some ⟨g0, i, none⟩) (m - i) (c - i) (e := 2) (sz := 1) (by kernel_rfl) rfl rfl rfl (by omega) (offA_one (by omega)) rfl rfl) ?_
   refine RW.one 8 (by kernel_rfl) ?_
   refine RO.r rfl rfl (by kernel_rfl) (Ef.copy (e := 2) (C := splice (C.take i ++ List.replicate (m + 1 - i) (.int .i64 0)) i [x]) (cs := (C.drop i).take (m - i)) (src := (C.drop i).take (m - i)) (by kernel_rfl) rfl rfl (RdV.part1 (by omega)) (m - i) (by simp) (by omega) (by rw [List.take_take, Nat.min_self]) (by simp; omega) (by intro v hv; rw [← List.drop_take, hC2] at hv; exact hxs v (List.mem_of_mem_drop hv)) (by rw [length_splice _ _ _ (by simp; omega)]; simp; omega) ?_)
   try simp only [List.cons_append, List.nil_append]
   rw [Lb.ins1 hC2 (by omega) (by omega)]
   refine RW.done (by rfl) ?_
   simp only [List.drop_succ_cons, List.drop_zero, List.drop_nil]
   refine LW.done ?_
   refine T.seq ?_
   refine T.region ?_
   refine LW.q rfl (Qt.move rfl) ?_
   refine LW.q rfl (Qt.assign rfl) ?_
   refine LW.done ?_
   refine T.ret ?_
   exact ⟨.inl rfl, _, _, res [_] rfl ⟨rvT rfl, trivial⟩, ⟨_, _, rfl, ⟨_, rfl⟩, rfl⟩, Sub.any⟩
  ·
   refine T.skip ?_
   refine T.seq ?_
   refine T.region ?_
   refine LW.q rfl (Qt.move rfl) ?_
   refine LW.q rfl (Qt.move rfl) ?_
   refine LW.q rfl (Qt.move rfl) ?_
   refine LW.q rfl (Qt.add rfl rfl (wr64 (by omega) (by omega))) ?_
   refine LW.q rfl (Qt.slice_nsn (m + 1) (e := 2) (sz := 1) (by kernel_rfl) rfl rfl (by omega) (by omega)) ?_
   refine LW.q rfl (Qt.assign rfl) ?_
   refine LW.done ?_
   refine T.seq ?_
   refine T.seq ?_
   refine T.region ?_
   refine LW.q rfl (Qt.move rfl) ?_
   refine LW.q rfl (Qt.move rfl) ?_
   refine LW.q rfl (Qt.move rfl) ?_
   refine LW.q rfl (Qt.move rfl) ?_
   refine LW.q rfl (Qt.add rfl rfl (wr64 (by omega) (by omega))) ?_
   refine LW.q rfl (Qt.sliceE_snn (i + 1) (some ⟨g0, i + 1, none⟩) (m - i) (c - (i + 1)) (e := 2) (sz := 1) (by kernel_rfl) rfl rfl rfl (by omega) (offA_one (by omega)) (by omega) rfl) ?_
   refine LW.e rfl (Ef.overlapsNo (tS := 62) (Ca := [x]) (Cb := C) (ta := 2) (tb := 2) (tR := 4) (e := 2) Try.func75 (by kernel_rfl) (by kernel_rfl) (by kernel_rfl) (by kernel_rfl) (by kernel_rfl) rfl rfl (by intro e; rw [e] at hC1; simp at hC1; omega) ?_)
   first | refine LW.q rfl (Qt.notP rfl) ?_ | refine LW.q rfl (Qt.notB rfl) ?_
   refine LW.done ?_
   first | refine T.condT rfl ?_ | refine T.condPT rfl (rfl) ?_ | refine T.condBT rfl (rfl) ?_
   refine T.seq ?_
   refine T.draw 9 ([blk g [x] 2]) (by kernel_rfl) (Nat.le_of_ble_eq_true rfl) (by kernel_rfl) ?_
   refine RW.q 0 rfl rfl (by kernel_rfl) Sub.any (Qt.move rfl) ?_
   refine RW.q 1 rfl rfl (by kernel_rfl) Sub.any (Qt.move rfl) ?_
   refine RW.q 2 rfl rfl (by kernel_rfl) Sub.any (Qt.move rfl) ?_
   refine RW.q 3 rfl rfl (by kernel_rfl) Sub.any (Qt.add rfl rfl (wr64 (by omega) (by omega))) ?_
   refine RW.q 4 rfl rfl (by kernel_rfl) Sub.any (Qt.sliceE_snn (i + 1) (some ⟨g0, i + 1, none⟩) (m - i) (c - (i + 1)) (e := 2) (sz := 1) (by kernel_rfl) rfl rfl rfl (by omega) (offA_one (by omega)) (by omega) rfl) ?_
   refine RW.q 5 rfl rfl (by kernel_rfl) Sub.any (Qt.move rfl) ?_
   refine RW.q 6 rfl rfl (by kernel_rfl) Sub.any (Qt.move rfl) ?_
   refine RW.q 7 rfl rfl (by kernel_rfl) Sub.any (Qt.sliceE_snn i (some ⟨g0, i, none⟩) (m + 1 - i) (c - i) (e := 2) (sz := 1) (by kernel_rfl) rfl rfl rfl (by omega) (offA_one (by omega)) rfl rfl) ?_
   refine RW.one 8 (by kernel_rfl) ?_
   refine RO.r rfl rfl (by kernel_rfl) (Ef.copyT (e := 2) (C := C) (cs := (C.drop i).take (m - i)) (src := (C.drop i).take (m + 1 - i)) (by kernel_rfl) rfl rfl (RdV.part1 (by omega)) (m - i) (Nat.min_eq_right (by omega)).symm (by omega) (by rw [List.take_take, Nat.min_eq_left (by omega)]) (by simp; omega) (by intro v hv; rw [← List.drop_take, hC2] at hv; exact hxs v (List.mem_of_mem_drop hv)) (by omega) ?_)
   try simp only [List.cons_append, List.nil_append]
   refine RW.done (by rfl) ?_
   simp only [List.drop_succ_cons, List.drop_zero, List.drop_nil]
   refine LW.done ?_
   refine T.seq ?_
   refine T.region ?_
   refine LW.q rfl (Qt.move rfl) ?_
   refine LW.q rfl (Qt.move rfl) ?_
   refine LW.q rfl (Qt.sliceE_snn i (some ⟨g0, i, none⟩) (m + 1 - i) (c - i) (e := 2) (sz := 1) (by kernel_rfl) rfl rfl rfl (by omega) (offA_one (by omega)) rfl rfl) ?_
   refine LW.q rfl (Qt.move rfl) ?_
   refine LW.e rfl (Ef.copy (e := 2) (C := splice C (i + 1) ((C.drop i).take (m - i))) (cs := [x]) (src := [x]) (by kernel_rfl) rfl rfl ((RdV.one (g := g) (x := x) (t := 2)).mono (fun w ho => ho.map Sub.any)) 1 (Nat.min_eq_left (by omega)).symm (by omega) rfl rfl (by simp [hx]) (by rw [length_splice _ _ _ (by simp; omega)]; omega) ?_)
   try simp only [List.cons_append, List.nil_append]
   refine LW.done ?_
   refine T.seq ?_
   refine T.region ?_
   refine LW.q rfl (Qt.move rfl) ?_
   refine LW.q rfl (Qt.assign rfl) ?_
   refine LW.done ?_
   refine T.ret ?_
   exact ⟨.inl rfl, _, _, res [_] rfl ⟨rvT rfl, trivial⟩, ⟨_, _, rfl, ⟨_, rfl⟩, rfl⟩, (fun h H => Has.cons_imp (fun _ k => k.tail) (Has.closeRow (by rw [length_splice _ _ _ (by rw [length_splice _ _ _ (by simp; omega)]; simp; omega), length_splice _ _ _ (by simp; omega), hC1]) (by omega) hC4 (Lb.ins2 hC2 (by omega) (by omega)) H))⟩

theorem Lb.deleteI (B : Base) (p : Option Addr) (m c i : Nat) (xs : List Value) (hm : xs.length = m) (hi : i < m) (hs : m < 2 ^ 40) (hxs : ∀ v ∈ xs, v.oneCell' = true) :
    Fn Try.prog B 78 #[.slice p m c, .int .i64 i, .int .i64 (i + 1 : Nat)] [row (.slice p m c) 2 1 m xs] (fun v l => v = .slice p (m - 1) c ∧ l = [row (.slice p (m - 1) c) 2 1 (m - 1) (xs.eraseIdx i)]) := by
  refine Fn.enter3 33 Try.func78 rfl rfl (Nat.le_of_ble_eq_true rfl) (fun F => ?_)
  try simp only [List.cons_append, List.nil_append]
  refine T.own fun w0 ho0 => ?_
  have hp := ho0.slice_at (p := p) (m := m) (c := c) (k := m)
  clear ho0
  obtain ⟨g0, rfl⟩ := hp.2.1 (by omega)
  refine T.ex (fun w ho => ho.openRow) fun C => ?_
  refine T.own fun w1 ho1 => ?_
  obtain ⟨hC1, hC2, hC3, hC4⟩ := ho1.has.elim fun h H => (Has.open_pu H.2.2).1
  refine T.conv (fun w ho => ho.tl) ?_
  clear ho1
  refine T.seq ?_
  refine T.region ?_
  refine LW.q rfl (Qt.assign rfl) ?_
  refine LW.done ?_
  refine T.seq ?_
  refine T.region ?_
  refine LW.q rfl (Qt.move rfl) ?_
  refine LW.q rfl (Qt.move rfl) ?_
  refine LW.q rfl (Qt.move rfl) ?_
  refine LW.q rfl (Qt.move rfl) ?_
  refine LW.q rfl (Qt.len (e := 2) (sz := 1) (by kernel_rfl) rfl) ?_
  refine LW.q rfl (Qt.slice_sss i (i + 1) m (e := 2) (sz := 1) (by kernel_rfl) rfl rfl rfl rfl rfl rfl rfl (by omega) (by omega) (by omega)) ?_
  refine LW.done ?_
  refine T.seq ?_
  refine T.seq ?_
  refine T.region ?_
  refine LW.q rfl (Qt.move rfl) ?_
  refine LW.q rfl (Qt.move rfl) ?_
  refine LW.q rfl (Qt.eql rfl rfl) ?_
  refine LW.done ?_
  first | refine T.condF rfl ?_ | refine T.condPF rfl (by omega) ?_ | refine T.condBF rfl (by omega) ?_
  refine T.skip ?_
  refine T.seq ?_
  refine T.region ?_
  refine LW.q rfl (Qt.move rfl) ?_
  refine LW.q rfl (Qt.len (e := 2) (sz := 1) (by kernel_rfl) rfl) ?_
  refine LW.q rfl (Qt.assign rfl) ?_
  refine LW.done ?_
  refine T.seq ?_
  refine T.draw 7 ([]) (by kernel_rfl) (Nat.le_of_ble_eq_true rfl) (by kernel_rfl) ?_
  refine RW.q 0 rfl rfl (by kernel_rfl) Sub.any (Qt.move rfl) ?_
  refine RW.q 1 rfl rfl (by kernel_rfl) Sub.any (Qt.move rfl) ?_
  refine RW.q 2 rfl rfl (by kernel_rfl) Sub.any (Qt.slice_nsn i (e := 2) (sz := 1) (by kernel_rfl) rfl rfl rfl (by omega)) ?_
  refine RW.q 3 rfl rfl (by kernel_rfl) Sub.any (Qt.move rfl) ?_
  refine RW.q 4 rfl rfl (by kernel_rfl) Sub.any (Qt.move rfl) ?_
  refine RW.q 5 rfl rfl (by kernel_rfl) Sub.any (Qt.slice_snn (i + 1) (e := 2) (sz := 1) (by kernel_rfl) rfl rfl rfl (by omega)) ?_
  refine RW.one 6 (by kernel_rfl) ?_
  refine RO.r rfl rfl (by kernel_rfl) (Ef.appendB (C := C) (m := m - (i + 1)) (news := (C.drop (i + 1)).take (m - (i + 1))) Lb.elemI rfl rfl (SrcOf.rd (RdV.from1 (by omega) (by omega)) (by kernel_rfl) (by simp; omega) (by intro v hv; rw [← List.drop_take, hC2] at hv; exact hxs v (List.mem_of_mem_drop hv))) (by omega) (by omega) ?_)
  try simp only [List.cons_append, List.nil_append]
  rw [show i + (m - (i + 1)) = m - 1 by omega]
  refine RW.done (by rfl) ?_
  simp only [List.drop_succ_cons, List.drop_zero, List.drop_nil]
  refine LW.q rfl (Qt.assign rfl) ?_
  refine LW.done ?_
  refine T.seq ?_
  refine T.region ?_
  refine LW.q rfl (Qt.move rfl) ?_
  refine LW.q rfl (Qt.move rfl) ?_
  refine LW.q rfl (Qt.len (e := 2) (sz := 1) (by kernel_rfl) rfl) ?_
  refine LW.q rfl (Qt.move rfl) ?_
  refine LW.q rfl (Qt.sliceE_ssn (m - 1) m (some ⟨g0, m - 1, none⟩) 1 (c - (m - 1)) (e := 2) (sz := 1) (by kernel_rfl) rfl rfl rfl rfl rfl (by omega) (by omega) (offA_one (by omega)) (by omega) rfl) ?_
  refine LW.e0 rfl (Ef.clear (e := 2) (C := splice C i ((C.drop (i + 1)).take (m - (i + 1)))) (.int .i64 0) (by kernel_rfl) (by kernel_rfl) rfl rfl rfl (by omega) (by rw [length_splice _ _ _ (by simp; omega)]; omega) ?_)
  try simp only [List.cons_append, List.nil_append]
  refine LW.done ?_
  refine T.seq ?_
  refine T.region ?_
  refine LW.q rfl (Qt.move rfl) ?_
  refine LW.q rfl (Qt.assign rfl) ?_
  refine LW.done ?_
  refine T.ret ?_
  exact ⟨.inl rfl, _, _, res [_] rfl ⟨rvT rfl, trivial⟩, ⟨rfl, rfl⟩, (fun h H => Has.closeRow (by rw [length_splice _ _ _ (by rw [length_splice _ _ _ (by simp; omega)]; simp; omega), length_splice _ _ _ (by simp; omega), hC1]) (by omega) hC4 (Lb.del1 hC2 hi (by omega)) H)⟩
theorem Lb.cloneI (B : Base) (S : List Assn) (v : Value) (xs : List Value) (m : Nat) (hm : xs.length = m) (hv : RdV B S v xs) (hb : m < 2 ^ 40) (hxs : ∀ v ∈ xs, v.oneCell' = true) : Fn Try.prog B 69 #[v] S (fun u l => ∃ p c, u = .slice p m c ∧ l = row (.slice p m c) 2 1 m xs :: S) := by
 subst hm
 obtain ⟨a, c, rfl⟩ := hv.form (m := xs.length) rfl
 refine Fn.enter1 8 Try.func69 rfl rfl (Nat.le_of_ble_eq_true rfl) (fun F => ?_)
 try simp only [List.cons_append, List.nil_append]
 refine T.seq ?_
 refine T.region ?_
 refine LW.q rfl (Qt.assign rfl) ?_
 refine LW.done ?_
 refine T.seq ?_
 refine T.seq ?_
 refine T.region ?_
 refine LW.q rfl (Qt.move rfl) ?_
 refine LW.q rfl (Qt.eqlSl (by kernel_rfl) rfl rfl) ?_
 refine LW.done ?_
 refine T.cond rfl (fun h => ?_) (fun h => ?_)
 ·
  have hb0 : xs = [] := by rcases Nat.eq_zero_or_pos xs.length with h0 | h0; exact List.eq_nil_of_length_eq_zero h0; obtain ⟨g, o, rfl, _⟩ := hv.at h0; cases h
  subst hb0
  refine T.conv (l' := row (.slice none ([] : List Value).length 0) 2 1 ([] : List Value).length [] :: (S ++ F)) (fun w ho => ho.row_nil _ _) ?_
  refine T.seq ?_
  refine T.region ?_
  refine LW.q rfl (Qt.assign rfl) ?_
  refine LW.done ?_
  refine T.ret ?_
  exact ⟨.inl rfl, _, _, res [_] rfl ⟨rvT rfl, trivial⟩, ⟨none, 0, rfl, rfl⟩, Sub.any⟩
 ·
  refine T.skip ?_
  refine T.seq ?_
  refine T.region ?_
  refine LW.e rfl (Ef.empty Lb.elemI ?_)
  rintro g5
  try simp only [List.cons_append, List.nil_append]
  refine LW.q rfl (Qt.move rfl) ?_
  refine LW.e rfl (Ef.append Lb.elemI rfl rfl (SrcOf.rd (m := xs.length) (hv.mono (fun w ho => ho.tl.drop)) (by kernel_rfl) rfl hxs) (by unfold maxLen; omega) (by omega) ?_)
  rintro p1 c1 hp1
  try simp only [List.cons_append, List.nil_append]
  simp only [Nat.zero_add, List.nil_append]
  refine LW.q rfl (Qt.assign rfl) ?_
  refine LW.done ?_
  refine T.ret ?_
  exact ⟨.inl rfl, _, _, res [_] rfl ⟨rvT rfl, trivial⟩, ⟨_, _, rfl, rfl⟩, Sub.any⟩

theorem Lb.elemN : ElemOk Try.prog 96 95 1 8 := ElemOk.mk' (.pointer none) (by kernel_rfl) (by kernel_rfl) rfl (by decide)
theorem Lb.insertN (B : Base) (p : Option Addr) (m c i g : Nat) (xs : List Value) (x : Value) (hm : xs.length = m) (hi : i ≤ m) (hs : m < 2 ^ 40) (hx : x.oneCell' = true) (hxs : ∀ v ∈ xs, v.oneCell' = true) :
  Fn Try.prog B 71 #[.slice p m c, .int .i64 i, .slice (some ⟨g, 0, none⟩) 1 1] [row (.slice p m c) 95 1 m xs, blk g [x] 95] (fun v l => ∃ q c', v = .slice q (m + 1) c' ∧ (∃ h, q = some ⟨h, 0, none⟩) ∧ l = [row (.slice q (m + 1) c') 95 1 (m + 1) (xs.take i ++ x :: xs.drop i)]) := by
 refine Fn.enter3 95 Try.func71 rfl rfl (Nat.le_of_ble_eq_true rfl) (fun F => ?_)
 try simp only [List.cons_append, List.nil_append]
 refine T.seq ?_
 refine T.region ?_
 refine LW.q rfl (Qt.assign rfl) ?_
 refine LW.done ?_
 refine T.seq ?_
 refine T.region ?_
 refine LW.q rfl (Qt.move rfl) ?_
 refine LW.q rfl (Qt.move rfl) ?_
 refine LW.q rfl (Qt.slice_snn i (e := 95) (sz := 1) (by kernel_rfl) rfl rfl rfl (by omega)) ?_
 refine LW.done ?_
 refine T.seq ?_
 refine T.region ?_
 refine LW.q rfl (Qt.move rfl) ?_
 refine LW.q rfl (Qt.len (e := 95) (sz := 1) (by kernel_rfl) rfl) ?_
 refine LW.q rfl (Qt.assign rfl) ?_
 refine LW.done ?_
 refine T.seq ?_
 refine T.seq ?_
 refine T.region ?_
 refine LW.q rfl (Qt.move rfl) ?_
 refine LW.q rfl (Qt.eql rfl rfl) ?_
 refine LW.done ?_
 have hp := fun (w : World) (ho : Own B w (row (.slice p m c) 95 1 m xs :: blk g [x] 95 :: F)) => ho.slice_at (p := p) (m := m) (c := c)
 refine T.own fun w0 ho0 => ?_
 have hp := ho0.slice_at (p := p) (m := m) (c := c) (k := m)
 have hcap : m ≤ c := ho0.cap_at (p := p) (m := m) (c := c) (k := m)
 clear ho0
 first | refine T.condF rfl ?_ | refine T.condPF rfl (by omega) ?_ | refine T.condBF rfl (by omega) ?_
 refine T.skip ?_
 refine T.seq ?_
 refine T.region ?_
 refine LW.q rfl (Qt.move rfl) ?_
 refine LW.q rfl (Qt.len (e := 95) (sz := 1) (by kernel_rfl) rfl) ?_
 refine LW.q rfl (Qt.assign rfl) ?_
 refine LW.done ?_
 refine T.seq ?_
 refine T.seq ?_
 refine T.region ?_
 refine LW.q rfl (Qt.move rfl) ?_
 refine LW.q rfl (Qt.move rfl) ?_
 refine LW.q rfl (Qt.eql rfl rfl) ?_
 refine LW.done ?_
 refine T.condP rfl (fun hi2 => ?_) (fun hi2 => ?_)
 ·
  refine T.seq ?_
  refine T.region ?_
  refine LW.q rfl (Qt.move rfl) ?_
  refine LW.q rfl (Qt.move rfl) ?_
  refine LW.e rfl (Ef.append Lb.elemN rfl rfl (SrcOf.blk (by kernel_rfl) rfl (by simp [hx])) (by unfold maxLen; omega) (by omega) ?_)
  rintro p1 c1 hp1
  try simp only [List.cons_append, List.nil_append]
  refine LW.q rfl (Qt.assign rfl) ?_
  refine LW.done ?_
  refine T.ret ?_
  exact ⟨.inl rfl, _, _, res [_] rfl ⟨rvT rfl, trivial⟩, ⟨_, _, rfl, hp1 (by omega), by rw [show i = m by omega, List.take_of_length_le (by omega), List.drop_of_length_le (by omega)]⟩, Sub.any⟩
 ·
  obtain ⟨g0, rfl⟩ := hp.2.1 (by omega)
  refine T.ex (fun w ho => ho.openRow) fun C => ?_
  refine T.own fun w1 ho1 => ?_
  obtain ⟨hC1, hC2, hC3, hC4⟩ := ho1.has.elim fun h H => (Has.open_pu H.2.2).1
  refine T.conv (fun w ho => ho.tl) ?_
  clear ho1
  refine T.skip ?_
  refine T.seq ?_
  refine T.seq ?_
  refine T.region ?_
  refine LW.q rfl (Qt.move rfl) ?_
  refine LW.q rfl (Qt.move rfl) ?_
  refine LW.q rfl (Qt.add rfl rfl (wr64 (by omega) (by omega))) ?_
  refine LW.q rfl (Qt.move rfl) ?_
  refine LW.q rfl (Qt.cap (e := 95) (sz := 1) (by kernel_rfl) rfl) ?_
  refine LW.q rfl (Qt.gtr rfl rfl) ?_
  refine LW.done ?_
  refine T.condP rfl (fun hroom => ?_) (fun hroom => ?_)
  ·
   refine T.seq ?_
   refine T.region ?_
   refine LW.q rfl (Qt.move rfl) ?_
   refine LW.q rfl (Qt.move rfl) ?_
   refine LW.q rfl (Qt.slice_nsn i (e := 95) (sz := 1) (by kernel_rfl) rfl rfl rfl (by omega)) ?_
   refine LW.q rfl (Qt.move rfl) ?_
   refine LW.q rfl (Qt.move rfl) ?_
   refine LW.q rfl (Qt.add rfl rfl (wr64 (by omega) (by omega))) ?_
   refine LW.q rfl (Qt.move rfl) ?_
   refine LW.q rfl (Qt.sub rfl rfl (wr64 (by omega) (by omega))) ?_
   refine LW.e rfl (Ef.appendZG (m := m + 1 - i) (ki := .i64) (.pointer none) (.pointer none) Lb.elemN (by kernel_rfl) (by kernel_rfl) rfl rfl rfl (by omega) (by omega) (by omega) (by omega) (by unfold maxLen; omega) (by omega) ?_)
   rintro g2 c2 hc2
   try simp only [List.cons_append, List.nil_append]
   rw [show i + (m + 1 - i) = m + 1 by omega]
   refine LW.q rfl (Qt.assign rfl) ?_
   refine LW.done ?_
   refine T.seq ?_
   refine T.region ?_
   refine LW.q rfl (Qt.move rfl) ?_
   refine LW.q rfl (Qt.move rfl) ?_
   refine LW.q rfl (Qt.sliceE_snn i (some ⟨g2, i, none⟩) (m + 1 - i) (c2 - i) (e := 95) (sz := 1) (by kernel_rfl) rfl rfl rfl (by omega) (offA_one (by omega)) (by omega) rfl) ?_
   refine LW.q rfl (Qt.move rfl) ?_
   refine LW.e rfl (Ef.copy (e := 95) (C := C.take i ++ List.replicate (m + 1 - i) (.pointer none)) (cs := [x]) (src := [x]) (by kernel_rfl) rfl rfl ((RdV.one (g := g) (x := x) (t := 95)).mono (fun w ho => ho.map Sub.any)) 1 (Nat.min_eq_left (by omega)).symm (by omega) rfl rfl (by simp [hx]) (by simp; omega) ?_)
   try simp only [List.cons_append, List.nil_append]
   refine LW.done ?_
   refine T.seq ?_
   refine T.drawBl 9 none (by kernel_rfl) (Nat.le_of_ble_eq_true rfl) (by kernel_rfl) ?_
   refine RW.q 0 rfl rfl (by kernel_rfl) Sub.any (Qt.move rfl) ?_
   refine RW.q 1 rfl rfl (by kernel_rfl) Sub.any (Qt.move rfl) ?_
   refine RW.q 2 rfl rfl (by kernel_rfl) Sub.any (Qt.move rfl) ?_
   refine RW.q 3 rfl rfl (by kernel_rfl) Sub.any (Qt.add rfl rfl (wr64 (by omega) (by omega))) ?_
   refine RW.q 4 rfl rfl (by kernel_rfl) Sub.any (Qt.sliceE_snn (i + 1) (some ⟨g2, i + 1, none⟩) (m - i) (c2 - (i + 1)) (e := 95) (sz := 1) (by kernel_rfl) rfl rfl rfl (by omega) (offA_one (by omega)) (by omega) rfl) ?_
   refine RW.q 5 rfl rfl (by kernel_rfl) Sub.any (Qt.move rfl) ?_
   refine RW.q 6 rfl rfl (by kernel_rfl) Sub.any (Qt.move rfl) ?_
   refine RW.q 7 rfl rfl (by kernel_rfl) Sub.any (Qt.sliceE_snn i (some ⟨g0, i, none⟩) (m - i) (c - i) (e := 95) (sz := 1) (by kernel_rfl) rfl rfl rfl (by omega) (offA_one (by omega)) rfl rfl) ?_
   refine RW.one 8 (by kernel_rfl) ?_
   refine RO.r rfl rfl (by kernel_rfl) (Ef.copy (e := 95) (C := splice (C.take i ++ List.replicate (m + 1 - i) (.pointer none)) i [x]) (cs := (C.drop i).take (m - i)) (src := (C.drop i).take (m - i)) (by kernel_rfl) rfl rfl (RdV.part1 (by omega)) (m - i) (by simp) (by omega) (by rw [List.take_take, Nat.min_self]) (by simp; omega) (by intro v hv; rw [← List.drop_take, hC2] at hv; exact hxs v (List.mem_of_mem_drop hv)) (by rw [length_splice _ _ _ (by simp; omega)]; simp; omega) ?_)
   try simp only [List.cons_append, List.nil_append]
   rw [Lb.ins1 hC2 (by omega) (by omega)]
   refine RW.done (by rfl) ?_
   simp only [List.drop_succ_cons, List.drop_zero, List.drop_nil]
   refine LW.done ?_
   refine T.seq ?_
   refine T.region ?_
   refine LW.q rfl (Qt.move rfl) ?_
   refine LW.q rfl (Qt.assign rfl) ?_
   refine LW.done ?_
   refine T.ret ?_
   exact ⟨.inl rfl, _, _, res [_] rfl ⟨rvT rfl, trivial⟩, ⟨_, _, rfl, ⟨_, rfl⟩, rfl⟩, Sub.any⟩
  ·
   refine T.skip ?_
   refine T.seq ?_
   refine T.region ?_
   refine LW.q rfl (Qt.move rfl) ?_
   refine LW.q rfl (Qt.move rfl) ?_
   refine LW.q rfl (Qt.move rfl) ?_
   refine LW.q rfl (Qt.add rfl rfl (wr64 (by omega) (by omega))) ?_
   refine LW.q rfl (Qt.slice_nsn (m + 1) (e := 95) (sz := 1) (by kernel_rfl) rfl rfl (by omega) (by omega)) ?_
   refine LW.q rfl (Qt.assign rfl) ?_
   refine LW.done ?_
   refine T.seq ?_
   refine T.seq ?_
   refine T.region ?_
   refine LW.q rfl (Qt.move rfl) ?_
   refine LW.q rfl (Qt.move rfl) ?_
   refine LW.q rfl (Qt.move rfl) ?_
   refine LW.q rfl (Qt.move rfl) ?_
   refine LW.q rfl (Qt.add rfl rfl (wr64 (by omega) (by omega))) ?_
   refine LW.q rfl (Qt.sliceE_snn (i + 1) (some ⟨g0, i + 1, none⟩) (m - i) (c - (i + 1)) (e := 95) (sz := 1) (by kernel_rfl) rfl rfl rfl (by omega) (offA_one (by omega)) (by omega) rfl) ?_
   refine LW.e rfl (Ef.overlapsNo (tS := 96) (Ca := [x]) (Cb := C) (ta := 95) (tb := 95) (tR := 4) (e := 95) Try.func87 (by kernel_rfl) (by kernel_rfl) (by kernel_rfl) (by kernel_rfl) (by kernel_rfl) rfl rfl (by intro e; rw [e] at hC1; simp at hC1; omega) ?_)
   first | refine LW.q rfl (Qt.notP rfl) ?_ | refine LW.q rfl (Qt.notB rfl) ?_
   refine LW.done ?_
   first | refine T.condT rfl ?_ | refine T.condPT rfl (rfl) ?_ | refine T.condBT rfl (rfl) ?_
   refine T.seq ?_
   refine T.draw 9 ([blk g [x] 95]) (by kernel_rfl) (Nat.le_of_ble_eq_true rfl) (by kernel_rfl) ?_
   refine RW.q 0 rfl rfl (by kernel_rfl) Sub.any (Qt.move rfl) ?_
   refine RW.q 1 rfl rfl (by kernel_rfl) Sub.any (Qt.move rfl) ?_
   refine RW.q 2 rfl rfl (by kernel_rfl) Sub.any (Qt.move rfl) ?_
   refine RW.q 3 rfl rfl (by kernel_rfl) Sub.any (Qt.add rfl rfl (wr64 (by omega) (by omega))) ?_
   refine RW.q 4 rfl rfl (by kernel_rfl) Sub.any (Qt.sliceE_snn (i + 1) (some ⟨g0, i + 1, none⟩) (m - i) (c - (i + 1)) (e := 95) (sz := 1) (by kernel_rfl) rfl rfl rfl (by omega) (offA_one (by omega)) (by omega) rfl) ?_
   refine RW.q 5 rfl rfl (by kernel_rfl) Sub.any (Qt.move rfl) ?_
   refine RW.q 6 rfl rfl (by kernel_rfl) Sub.any (Qt.move rfl) ?_
   refine RW.q 7 rfl rfl (by kernel_rfl) Sub.any (Qt.sliceE_snn i (some ⟨g0, i, none⟩) (m + 1 - i) (c - i) (e := 95) (sz := 1) (by kernel_rfl) rfl rfl rfl (by omega) (offA_one (by omega)) rfl rfl) ?_
   refine RW.one 8 (by kernel_rfl) ?_
   refine RO.r rfl rfl (by kernel_rfl) (Ef.copyT (e := 95) (C := C) (cs := (C.drop i).take (m - i)) (src := (C.drop i).take (m + 1 - i)) (by kernel_rfl) rfl rfl (RdV.part1 (by omega)) (m - i) (Nat.min_eq_right (by omega)).symm (by omega) (by rw [List.take_take, Nat.min_eq_left (by omega)]) (by simp; omega) (by intro v hv; rw [← List.drop_take, hC2] at hv; exact hxs v (List.mem_of_mem_drop hv)) (by omega) ?_)
   try simp only [List.cons_append, List.nil_append]
   refine RW.done (by rfl) ?_
   simp only [List.drop_succ_cons, List.drop_zero, List.drop_nil]
   refine LW.done ?_
   refine T.seq ?_
   refine T.region ?_
   refine LW.q rfl (Qt.move rfl) ?_
   refine LW.q rfl (Qt.move rfl) ?_
   refine LW.q rfl (Qt.sliceE_snn i (some ⟨g0, i, none⟩) (m + 1 - i) (c - i) (e := 95) (sz := 1) (by kernel_rfl) rfl rfl rfl (by omega) (offA_one (by omega)) rfl rfl) ?_
   refine LW.q rfl (Qt.move rfl) ?_
   refine LW.e rfl (Ef.copy (e := 95) (C := splice C (i + 1) ((C.drop i).take (m - i))) (cs := [x]) (src := [x]) (by kernel_rfl) rfl rfl ((RdV.one (g := g) (x := x) (t := 95)).mono (fun w ho => ho.map Sub.any)) 1 (Nat.min_eq_left (by omega)).symm (by omega) rfl rfl (by simp [hx]) (by rw [length_splice _ _ _ (by simp; omega)]; omega) ?_)
   try simp only [List.cons_append, List.nil_append]
   refine LW.done ?_
   refine T.seq ?_
   refine T.region ?_
   refine LW.q rfl (Qt.move rfl) ?_
   refine LW.q rfl (Qt.assign rfl) ?_
   refine LW.done ?_
   refine T.ret ?_
   exact ⟨.inl rfl, _, _, res [_] rfl ⟨rvT rfl, trivial⟩, ⟨_, _, rfl, ⟨_, rfl⟩, rfl⟩, (fun h H => Has.cons_imp (fun _ k => k.tail) (Has.closeRow (by rw [length_splice _ _ _ (by rw [length_splice _ _ _ (by simp; omega)]; simp; omega), length_splice _ _ _ (by simp; omega), hC1]) (by omega) hC4 (Lb.ins2 hC2 (by omega) (by omega)) H))⟩

theorem Lb.deleteN (B : Base) (p : Option Addr) (m c i : Nat) (xs : List Value) (hm : xs.length = m) (hi : i < m) (hs : m < 2 ^ 40) (hxs : ∀ v ∈ xs, v.oneCell' = true) :
    Fn Try.prog B 93 #[.slice p m c, .int .i64 i, .int .i64 (i + 1 : Nat)] [row (.slice p m c) 95 1 m xs] (fun v l => v = .slice p (m - 1) c ∧ l = [row (.slice p (m - 1) c) 95 1 (m - 1) (xs.eraseIdx i)]) := by
  refine Fn.enter3 33 Try.func93 rfl rfl (Nat.le_of_ble_eq_true rfl) (fun F => ?_)
  try simp only [List.cons_append, List.nil_append]
  refine T.own fun w0 ho0 => ?_
  have hp := ho0.slice_at (p := p) (m := m) (c := c) (k := m)
  clear ho0
  obtain ⟨g0, rfl⟩ := hp.2.1 (by omega)
  refine T.ex (fun w ho => ho.openRow) fun C => ?_
  refine T.own fun w1 ho1 => ?_
  obtain ⟨hC1, hC2, hC3, hC4⟩ := ho1.has.elim fun h H => (Has.open_pu H.2.2).1
  refine T.conv (fun w ho => ho.tl) ?_
  clear ho1
  refine T.seq ?_
  refine T.region ?_
  refine LW.q rfl (Qt.assign rfl) ?_
  refine LW.done ?_
  refine T.seq ?_
  refine T.region ?_
  refine LW.q rfl (Qt.move rfl) ?_
  refine LW.q rfl (Qt.move rfl) ?_
  refine LW.q rfl (Qt.move rfl) ?_
  refine LW.q rfl (Qt.move rfl) ?_
  refine LW.q rfl (Qt.len (e := 95) (sz := 1) (by kernel_rfl) rfl) ?_
  refine LW.q rfl (Qt.slice_sss i (i + 1) m (e := 95) (sz := 1) (by kernel_rfl) rfl rfl rfl rfl rfl rfl rfl (by omega) (by omega) (by omega)) ?_
  refine LW.done ?_
  refine T.seq ?_
  refine T.seq ?_
  refine T.region ?_
  refine LW.q rfl (Qt.move rfl) ?_
  refine LW.q rfl (Qt.move rfl) ?_
  refine LW.q rfl (Qt.eql rfl rfl) ?_
  refine LW.done ?_
  first | refine T.condF rfl ?_ | refine T.condPF rfl (by omega) ?_ | refine T.condBF rfl (by omega) ?_
  refine T.skip ?_
  refine T.seq ?_
  refine T.region ?_
  refine LW.q rfl (Qt.move rfl) ?_
  refine LW.q rfl (Qt.len (e := 95) (sz := 1) (by kernel_rfl) rfl) ?_
  refine LW.q rfl (Qt.assign rfl) ?_
  refine LW.done ?_
  refine T.seq ?_
  refine T.draw 7 ([]) (by kernel_rfl) (Nat.le_of_ble_eq_true rfl) (by kernel_rfl) ?_
  refine RW.q 0 rfl rfl (by kernel_rfl) Sub.any (Qt.move rfl) ?_
  refine RW.q 1 rfl rfl (by kernel_rfl) Sub.any (Qt.move rfl) ?_
  refine RW.q 2 rfl rfl (by kernel_rfl) Sub.any (Qt.slice_nsn i (e := 95) (sz := 1) (by kernel_rfl) rfl rfl rfl (by omega)) ?_
  refine RW.q 3 rfl rfl (by kernel_rfl) Sub.any (Qt.move rfl) ?_
  refine RW.q 4 rfl rfl (by kernel_rfl) Sub.any (Qt.move rfl) ?_
  refine RW.q 5 rfl rfl (by kernel_rfl) Sub.any (Qt.slice_snn (i + 1) (e := 95) (sz := 1) (by kernel_rfl) rfl rfl rfl (by omega)) ?_
  refine RW.one 6 (by kernel_rfl) ?_
  refine RO.r rfl rfl (by kernel_rfl) (Ef.appendB (C := C) (m := m - (i + 1)) (news := (C.drop (i + 1)).take (m - (i + 1))) Lb.elemN rfl rfl (SrcOf.rd (RdV.from1 (by omega) (by omega)) (by kernel_rfl) (by simp; omega) (by intro v hv; rw [← List.drop_take, hC2] at hv; exact hxs v (List.mem_of_mem_drop hv))) (by omega) (by omega) ?_)
  try simp only [List.cons_append, List.nil_append]
  rw [show i + (m - (i + 1)) = m - 1 by omega]
  refine RW.done (by rfl) ?_
  simp only [List.drop_succ_cons, List.drop_zero, List.drop_nil]
  refine LW.q rfl (Qt.assign rfl) ?_
  refine LW.done ?_
  refine T.seq ?_
  refine T.region ?_
  refine LW.q rfl (Qt.move rfl) ?_
  refine LW.q rfl (Qt.move rfl) ?_
  refine LW.q rfl (Qt.len (e := 95) (sz := 1) (by kernel_rfl) rfl) ?_
  refine LW.q rfl (Qt.move rfl) ?_
  refine LW.q rfl (Qt.sliceE_ssn (m - 1) m (some ⟨g0, m - 1, none⟩) 1 (c - (m - 1)) (e := 95) (sz := 1) (by kernel_rfl) rfl rfl rfl rfl rfl (by omega) (by omega) (offA_one (by omega)) (by omega) rfl) ?_
  refine LW.e0 rfl (Ef.clear (e := 95) (C := splice C i ((C.drop (i + 1)).take (m - (i + 1)))) (.pointer none) (by kernel_rfl) (by kernel_rfl) rfl rfl rfl (by omega) (by rw [length_splice _ _ _ (by simp; omega)]; omega) ?_)
  try simp only [List.cons_append, List.nil_append]
  refine LW.done ?_
  refine T.seq ?_
  refine T.region ?_
  refine LW.q rfl (Qt.move rfl) ?_
  refine LW.q rfl (Qt.assign rfl) ?_
  refine LW.done ?_
  refine T.ret ?_
  exact ⟨.inl rfl, _, _, res [_] rfl ⟨rvT rfl, trivial⟩, ⟨rfl, rfl⟩, (fun h H => Has.closeRow (by rw [length_splice _ _ _ (by rw [length_splice _ _ _ (by simp; omega)]; simp; omega), length_splice _ _ _ (by simp; omega), hC1]) (by omega) hC4 (Lb.del1 hC2 hi (by omega)) H)⟩
theorem Lb.cloneN (B : Base) (S : List Assn) (v : Value) (xs : List Value) (m : Nat) (hm : xs.length = m) (hv : RdV B S v xs) (hb : m < 2 ^ 40) (hxs : ∀ v ∈ xs, v.oneCell' = true) : Fn Try.prog B 70 #[v] S (fun u l => ∃ p c, u = .slice p m c ∧ l = row (.slice p m c) 95 1 m xs :: S) := by
 subst hm
 obtain ⟨a, c, rfl⟩ := hv.form (m := xs.length) rfl
 refine Fn.enter1 8 Try.func70 rfl rfl (Nat.le_of_ble_eq_true rfl) (fun F => ?_)
 try simp only [List.cons_append, List.nil_append]
 refine T.seq ?_
 refine T.region ?_
 refine LW.q rfl (Qt.assign rfl) ?_
 refine LW.done ?_
 refine T.seq ?_
 refine T.seq ?_
 refine T.region ?_
 refine LW.q rfl (Qt.move rfl) ?_
 refine LW.q rfl (Qt.eqlSl (by kernel_rfl) rfl rfl) ?_
 refine LW.done ?_
 refine T.cond rfl (fun h => ?_) (fun h => ?_)
 ·
  have hb0 : xs = [] := by rcases Nat.eq_zero_or_pos xs.length with h0 | h0; exact List.eq_nil_of_length_eq_zero h0; obtain ⟨g, o, rfl, _⟩ := hv.at h0; cases h
  subst hb0
  refine T.conv (l' := row (.slice none ([] : List Value).length 0) 95 1 ([] : List Value).length [] :: (S ++ F)) (fun w ho => ho.row_nil _ _) ?_
  refine T.seq ?_
  refine T.region ?_
  refine LW.q rfl (Qt.assign rfl) ?_
  refine LW.done ?_
  refine T.ret ?_
  exact ⟨.inl rfl, _, _, res [_] rfl ⟨rvT rfl, trivial⟩, ⟨none, 0, rfl, rfl⟩, Sub.any⟩
 ·
  refine T.skip ?_
  refine T.seq ?_
  refine T.region ?_
  refine LW.e rfl (Ef.empty Lb.elemN ?_)
  rintro g5
  try simp only [List.cons_append, List.nil_append]
  refine LW.q rfl (Qt.move rfl) ?_
  refine LW.e rfl (Ef.append Lb.elemN rfl rfl (SrcOf.rd (m := xs.length) (hv.mono (fun w ho => ho.tl.drop)) (by kernel_rfl) rfl hxs) (by unfold maxLen; omega) (by omega) ?_)
  rintro p1 c1 hp1
  try simp only [List.cons_append, List.nil_append]
  simp only [Nat.zero_add, List.nil_append]
  refine LW.q rfl (Qt.assign rfl) ?_
  refine LW.done ?_
  refine T.ret ?_
  exact ⟨.inl rfl, _, _, res [_] rfl ⟨rvT rfl, trivial⟩, ⟨_, _, rfl, rfl⟩, Sub.any⟩
end Go.Proofs.Ytefognjcognknaa
