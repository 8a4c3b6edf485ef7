/- Rules for operations that write or make memory: store, box, alloc, slices' literals, append, strings of bytes, structs. Conditions: of each rule its own. -/
import Derived.Test.YtdjfibkpmmcefaaSlC
namespace Go.Proofs.Ytdjfibkpmmcefaa
open Go.RowKit
section
variable {P : Program} {B : Base} {n : Nat} {S l r : List Assn} {f : Fr} {K : Value → List Assn → Prop}
variable {d : Option Tmp} {ty : TypeId} {pos : String} {af : Array Edge} {gd : Option (Nat × Bool)}

theorem run_storeAt_gen {w : World} {g o t' t : Nat} {cur : Array Value} {v : Value} {vs : List Value} (hg : w.heap[g]? = some (.cells cur t' (0, 0))) (hs : szOf P t = some vs.length) (hc : v.cells = vs.toArray) (h1 : ∀ u ∈ vs, u.oneCell' = true) (hfit : o + vs.length ≤ cur.size) :
    (Instr.storeAt t (.pointer (some ⟨g, o, none⟩)) v).run P w = .ok () (w.setRow g (splice cur.toList o vs).toArray) := by
  obtain ⟨i, hi, his⟩ := info_of_size hs
  have hst := run_storeCells_at P g o t' vs 0 cur w hg (by simpa using hfit) h1
  simp only [Nat.add_zero] at hst
  simp [Instr.storeAt, Instr.sureAddr, storeVar, sizeOf, typeInfo, hi, his, hc]
  rw [hst]
  congr 2
  simp [splice, List.append_assoc]

theorem splice_append {α : Type} (C X : List α) (o : Nat) (vs : List α) (h : o + vs.length ≤ C.length) : splice (C ++ X) o vs = splice C o vs ++ X := by
  unfold splice
  rw [List.take_append_of_le_length (by omega), List.drop_append_of_le_length (by omega)]
  simp [List.append_assoc]
theorem splice_one {α : Type} (C : List α) (o : Nat) (v : α) (h : o < C.length) : splice C o [v] = C.set o v := by
  unfold splice
  rw [List.set_eq_take_append_cons_drop, if_pos h]
  simp

theorem Ef.store {t g o : Nat} {x y : Operand} {v : Value} {C : List Value} (vs : List Value) (hs : szOf P t = some vs.length) (hx : ev n f x = some (.pointer (some ⟨g, o, none⟩))) (hy : ev n f y = some v) (hc : v.cells = vs.toArray) (h1' : vs.all (·.oneCell') = true)
    [k : StoreAt g l C (splice C o vs) r] (hfit : o + vs.length ≤ C.length) (h : K undef r) : Ef P B n ⟨d, .store t x y, ty, pos, af, gd⟩ f l K := ⟨fun w next Q ho hk => by
  have h1 : ∀ u ∈ vs, u.oneCell' = true := by simpa using h1'
  obtain ⟨X, t', hg, ho'⟩ := ho.store (g := g) (C := C) (D := splice C o vs) (length_splice _ _ _ hfit)
  have hr := run_storeAt_gen (P := P) (t := t) (o := o) (v := v) hg hs hc h1 (by simp; omega)
  rw [splice_append C X o vs hfit] at hr
  unfold Oper.wp execOp
  simp only [eval_act', evu_eq hx, evu_eq hy, Sem.run_bind, hr, Result.andThen_ok]
  exact hk undef _ _ h ho'⟩
theorem Ef.store1 {t g o : Nat} {x y : Operand} {v : Value} {C : List Value} (hs : szOf P t = some 1) (hx : ev n f x = some (.pointer (some ⟨g, o, none⟩))) (hy : ev n f y = some v) (h1 : v.oneCell' = true)
    [k : StoreAt g l C (C.set o v) r] (hfit : o < C.length) (h : K undef r) : Ef P B n ⟨d, .store t x y, ty, pos, af, gd⟩ f l K := by
  have e := splice_one C o v hfit
  rw [← e] at k
  refine Ef.store (k := k) [v] hs hx hy ?_ (by simpa using h1) (by simp only [List.length_singleton]; omega) h
  cases v <;> first | rfl | cases h1

theorem Ef.box {t : TypeId} {x : Operand} {v : Value} (vs : List Value) (hx : ev n f x = some v) (hc : v.cells = vs.toArray) (h : ∀ g, K (.pointer (some ⟨g, 0, none⟩)) (blk g vs t :: l)) : Ef P B n ⟨d, .box t x, ty, pos, af, gd⟩ f l K := ⟨fun w next Q ho hk => by
  have hr : (Instr.box t v).run P w = .ok (.pointer (some ⟨w.heap.size, 0, none⟩)) (w.alloc (.cells vs.toArray t)) := by
    simp [Instr.box, newVar, newRow, hc]
  unfold Oper.wp execOp
  simp only [eval_act', evu_eq hx, Sem.run_bind, hr, Sem.run_pure, Result.andThen_ok]
  exact hk _ _ _ (h _) (ho.alloc vs t)⟩
theorem run_alloc_zz {P : Program} (w : World) (t : TypeId) (i : TypeInfo) (z : Value) (hi : P.info? t = some i) (hz : i.zero = some z) :
    (Instr.alloc t true (.tuple #[])).run P w = .ok (.pointer (some ⟨w.heap.size, 0, none⟩)) (w.alloc (.cells z.cells t)) := by
  simp [Instr.alloc, zeroValue, typeInfo, hi, hz, newVar, newRow]
theorem Ef.alloc {t : TypeId} (vs : List Value) (hz : zeroB P t vs) (h : ∀ g, K (.pointer (some ⟨g, 0, none⟩)) (blk g vs t :: l)) : Ef P B n ⟨d, .alloc t, ty, pos, af, gd⟩ f l K := ⟨fun w next Q ho hk => by
  unfold zeroB at hz
  cases hi : P.info? t with
  | none => rw [hi] at hz; cases hz
  | some i =>
    rw [hi] at hz
    simp only [Option.bind_some] at hz
    cases hzz : i.zero with
    | none => rw [hzz] at hz; cases hz
    | some z =>
      rw [hzz] at hz
      simp only [Option.map_some, Option.some.injEq] at hz
      have hr := run_alloc_zz (P := P) w t i z hi hzz
      rw [hz] at hr
      unfold Oper.wp execOp
      simp only [Sem.run_bind, hr, Sem.run_pure, Result.andThen_ok]
      exact hk _ _ _ (h _) (ho.alloc vs t)⟩
/-! rows -/
theorem Own.row_owns {w : World} {v : Value} {e : TypeId} {sz m : Nat} {xs : List Value} (H : Own B w (row v e sz m xs :: l)) : w.ownsRow 0 e sz v m xs := by
  obtain ⟨h, _, hl, h1, _, _, a, _, ⟨e1, e2⟩, _⟩ := H.has
  refine ⟨e1, e2.imp id ?_⟩
  rintro ⟨g, cap, cur, a1, a2, a3, a4, a5, a6⟩
  exact ⟨g, cap, cur, a1, Nat.zero_le _, hl.p _ _ (a.p _ _ a2), a3, a4, a5, a6⟩
theorem Own.row_new {w w' : World} {v : Value} {e : TypeId} {sz m : Nat} {xs : List Value} (H : Own B w l) (hk : Kept [] w w') (ho : w'.ownsRow 0 e sz v m xs) (hn : ∀ g, v.ownBlock = some g → w.heap.size ≤ g) : Own B w' (row v e sz m xs :: l) :=
  Own.fresh H hk fun h e' => ⟨ho.1, ho.2.imp id fun ⟨g, cap, cur, a1, _, a2, a3⟩ => ⟨g, cap, cur, a1, by rw [e' g (hn g (by rw [a1]; rfl))]; exact a2, a3⟩⟩
theorem Own.row_kept {w w' : World} {v v' : Value} {e : TypeId} {sz m m' : Nat} {xs xs' : List Value} (H : Own B w (row v e sz m xs :: l)) (hk : Kept v.ownBlock.toList w w') (ho : w'.ownsRow 0 e sz v' m' xs') (hn : ∀ g, v'.ownBlock = some g → v.ownBlock = some g ∨ g = w.heap.size) : Own B w' (row v' e sz m' xs' :: l) := by
  refine Own.kept H hk ?_ ?_
  · rintro h ⟨_, e2⟩ g hg
    rcases e2 with ⟨rfl, _⟩ | ⟨g', cap, cur, rfl, a2, _⟩
    · simp [Value.ownBlock] at hg
    · simp [Value.ownBlock] at hg; subst hg; exact ⟨_, a2⟩
  · intro h1 h _ _ e1 _
    refine ⟨ho.1, ho.2.imp id fun ⟨g, cap, cur, a1, _, a2, a3⟩ => ⟨g, cap, cur, a1, ?_, a3⟩⟩
    have := hn g (by rw [a1]; rfl)
    rw [e1 g (by rcases this with h | h; exact .inl (by simp [h]); exact .inr (by omega))]
    exact a2
/-- The nil slice is a row. -/
theorem Own.row_nil {w : World} (H : Own B w l) (e : TypeId) (sz : Nat) : Own B w (row (.slice none 0 0) e sz 0 [] :: l) := H.map fun _ k => ⟨fun _ => none, _, ⟨fun _ => .inl rfl⟩, ⟨fun _ _ h => (by cases h)⟩, Piece.le_refl _, ⟨by simp, .inl ⟨rfl, rfl⟩⟩, k⟩
theorem Own.row_slice {w : World} {v : Value} {e : TypeId} {sz m : Nat} {xs : List Value} (H : Own B w (row v e sz m xs :: l)) : ∃ p cap, v = .slice p m cap ∧ (0 < m → ∃ g, p = some ⟨g, 0, none⟩) ∧ xs.length = m * sz := by
  have h := H.row_owns
  have hl := h.1
  rcases h.2 with ⟨rfl, rfl⟩ | ⟨g, cap, cur, rfl, _⟩
  · exact ⟨none, 0, rfl, by omega, hl⟩
  · exact ⟨some ⟨g, 0, none⟩, cap, rfl, fun _ => ⟨g, rfl⟩, hl⟩

/-- 'T{}' of a slice type. -/
theorem Ef.empty {t e sz bytes : Nat} (E : ElemOk P t e sz bytes) (h : ∀ g, K (.slice (some ⟨g, 0, none⟩) 0 0) (row (.slice (some ⟨g, 0, none⟩) 0 0) e sz 0 [] :: l)) : Ef P B n ⟨d, .buildSlice t 0 #[], ty, pos, af, gd⟩ f l K := ⟨fun w next Q ho hk => by
  refine wp_empty_k t rfl E fun g W e1 e2 hg hl => ?_
  exact hk _ _ _ (h g) (ho.row_new e2 e1 (fun g' hg' => by simp [Value.ownBlock] at hg'; omega))⟩

/-- A source to append: what is read. -/
structure SrcOf (P : Program) (B : Base) (l : List Assn) (sz tx : Nat) (x : Value) (m : Nat) (news : List Value) : Prop where
  src : ∀ w, Own B w l → Src P sz tx x m news w

theorem Ef.append {t tx e sz bytes : Nat} {x y : Operand} {v u : Value} {k m : Nat} {xs news : List Value} {ty2 : TypeId} (E : ElemOk P t e sz bytes) (hx : ev n f x = some v) (hy : ev n f y = some u)
    [hT : TakeR v l e sz k xs r] (hS : SrcOf P B l sz tx u m news) (h63 : k + m ≤ maxLen) (hbytes : (k + m) * bytes ≤ 140737488355328)
    (h : ∀ p c, (0 < k + m → ∃ g, p = some ⟨g, 0, none⟩) → K (.slice p (k + m) c) (row (.slice p (k + m) c) e sz (k + m) (xs ++ news) :: r)) : Ef P B n ⟨d, .call ⟨.builtin .append, #[x, y], #[t, tx]⟩, ty2, pos, af, gd⟩ f l K := ⟨fun w next Q ho hk => by
  have ho2 := ho.takeR (k := hT)
  refine wp_append_k x y t tx rfl E (by rw [eval_act, evu_eq hx]) ho2.row_owns (by rw [eval_act, evu_eq hy]) (hS.src w ho) h63 hbytes (Nat.zero_le _) fun v' w' hp => ?_
  have ho3 := ho2.row_kept hp.kept hp.own hp.blk
  obtain ⟨p, c, rfl, hpg, _⟩ := ho3.row_slice
  exact hk _ w' _ (h p c hpg) ho3⟩
theorem Ef.conv {o : Oper} {l' : List Assn} (hc : ∀ w, Own B w l → Own B w l') (h : Ef P B n o f l' K) : Ef P B n o f l K := ⟨fun w next Q ho hk => h.run w next Q (hc w ho) hk⟩
theorem Ef.own {o : Oper} (h : ∀ w, Own B w l → Ef P B n o f l K) : Ef P B n o f l K := ⟨fun w next Q ho hk => (h w ho).run w next Q ho hk⟩
/-- append to nil. -/
theorem Ef.appendNil {t tx e sz bytes : Nat} {x y : Operand} {u : Value} {m : Nat} {news : List Value} {ty2 : TypeId} (E : ElemOk P t e sz bytes) (hx : ev n f x = some (.slice none 0 0)) (hy : ev n f y = some u)
    (hS : SrcOf P B l sz tx u m news) (h63 : m ≤ maxLen) (hbytes : m * bytes ≤ 140737488355328)
    (h : ∀ p c, (0 < m → ∃ g, p = some ⟨g, 0, none⟩) → K (.slice p m c) (row (.slice p m c) e sz m news :: l)) : Ef P B n ⟨d, .call ⟨.builtin .append, #[x, y], #[t, tx]⟩, ty2, pos, af, gd⟩ f l K := by
  refine Ef.conv (fun w ho => ho.row_nil e sz) (Ef.append (k := 0) (m := m) (xs := []) E hx hy ⟨fun w ho => hS.src w (ho.map fun _ k => k.tail)⟩ (by omega) (by simpa using hbytes) fun p c hp => ?_)
  simp only [Nat.zero_add, List.nil_append] at hp ⊢
  exact h p c hp

def sliceZ (P : Program) (t sz : Nat) : Bool := match P.underlying t with
  | some (.slice e) => decide (szOf P e = some sz)
  | _ => false
theorem sliceZ_spec {t sz : Nat} (h : sliceZ P t sz = true) : ∃ e, P.underlying t = some (.slice e) := by
  unfold sliceZ at h
  split at h
  · exact ⟨_, by assumption⟩
  · cases h
/-- Sources. -/
theorem SrcOf.row {tx e sz m : Nat} {u : Value} {news : List Value} {r : List Assn} [k : TakeR u l e sz m news r] (hk : sliceZ P tx sz = true) (h1 : ∀ x ∈ news, x.oneCell' = true) : SrcOf P B l sz tx u m news := ⟨fun w ho => by
  obtain ⟨e', he⟩ := sliceZ_spec hk
  exact Src.ofOwns he (ho.takeR (k := k)).row_owns h1⟩
theorem SrcOf.cells {tx sz g o m cap : Nat} {C news : List Value} (hk : sliceZ P tx sz = true) [k : Rd B g l C] (hv : ∀ j v, news[j]? = some v → C[o + j]? = some v) (hl : news.length = m * sz) (h1 : ∀ x ∈ news, x.oneCell' = true) : SrcOf P B l sz tx (.slice (some ⟨g, o, none⟩) m cap) m news := ⟨fun w ho => by
  obtain ⟨e', he⟩ := sliceZ_spec hk
  exact Src.ofSlice w he ⟨g, o, none⟩ m cap news hl (fun j u hj => by rw [Addr.add_mid]; exact ho.cell (hv j u hj)) h1⟩
theorem SrcOf.nil {tx sz cap : Nat} (hk : sliceZ P tx sz = true) : SrcOf P B l sz tx (.slice none 0 cap) 0 [] := ⟨fun w _ => by
  obtain ⟨e', he⟩ := sliceZ_spec hk
  exact Src.ofNil w he cap⟩

/-- 'T{x}' of a slice type: one element. -/
theorem Ef.one {t e sz : Nat} {x : Operand} {v : Value} (vs : List Value) (hk : sliceB P t e sz = true) (hz : ∃ z, (P.info? e).bind (·.zero) = some z ∧ z.cells.size = sz) (hx : ev n f x = some v) (hc : v.cells = vs.toArray) (hl : vs.length = sz) (hp : 0 < sz) (h24 : sz ≤ 16777216)
    (h : ∀ g, K (.slice (some ⟨g, 0, none⟩) 1 1) (blk g vs e :: l)) : Ef P B n ⟨d, .buildSlice t 1 #[(0, x)], ty, pos, af, gd⟩ f l K := ⟨fun w next Q ho hk' => by
  obtain ⟨h1, h2⟩ := sliceB_spec hk
  obtain ⟨i, hi, his⟩ := info_of_size h2
  obtain ⟨z, hz1, hz2⟩ := hz
  rw [hi] at hz1
  have hvs : v.cells.size = sz := by rw [hc]; simpa using hl
  have hr := run_buildSlice_one (P := P) w t e i z v h1 hi hz1 (by rw [his, hvs]) (by rw [hvs]; exact hz2) (by rw [hvs]; omega) (by rw [hvs]; omega)
  unfold Oper.wp execOp
  simp only [eval_act', List.map_toArray, List.map_cons, List.map_nil, evu_eq hx, Sem.run_bind, hr, Sem.run_pure, Result.andThen_ok]
  rw [hc]
  exact hk' _ _ _ (h _) (ho.alloc vs e)⟩

/-- 'string(b)'. -/
def bytesB (P : Program) (t : TypeId) : Bool := match P.underlying t with
  | some (.slice e) => isInt P e .u8
  | _ => false
theorem bytesB_spec {t : TypeId} (h : bytesB P t = true) : ∃ e, P.underlying t = some (.slice e) ∧ P.underlying e = some (.int .u8) := by
  unfold bytesB at h
  split at h
  · rename_i e he
    unfold isInt at h
    split at h
    · rename_i k hk; simp at h; subst h; exact ⟨e, he, hk⟩
    · cases h
  · cases h
theorem isStr_spec {t : TypeId} (h : isStr P t = true) : P.underlying t = some .string := by
  unfold isStr at h
  split at h
  · assumption
  · cases h
theorem Qt.str {s t : TypeId} {x : Operand} {p : Option Addr} {m cap : Nat} (b : List UInt8) (hs : bytesB P s = true) (ht : isStr P t = true) (hx : ev n f x = some (.slice p m cap))
    (hr : ∀ w, Own B w S → ∃ fp, Reads w (.slice p m cap) (bytesV b) fp) : Qt P B n S ⟨d, .convert s t x, ty, pos, af, gd⟩ f (.string (strOf b)) := ⟨fun w ho => by
  obtain ⟨fp, h⟩ := hr w ho
  obtain ⟨e, h1, h2⟩ := bytesB_spec hs
  simp [execOp, evu_eq hx, run_string_of w s t e h1 h2 (isStr_spec ht) h]⟩

/-! structs -/
def offs (P : Program) (t : TypeId) : Option (List (Nat × Nat)) := match P.underlying t with
  | some (.struct fs) => fs.toList.mapM fun f => (szOf P f.type).map (Prod.mk f.offset)
  | _ => none
def fillP (os : List (Nat × Nat)) (cs : List Value) : List (Nat × Value) → Option (List Value)
  | [] => some cs
  | p :: ps => match os[p.1]? with
    | none => none
    | some (off, size) => if p.2.cells.size ≠ size || off + p.2.cells.size > cs.length then none else fillP os (splice cs off p.2.cells.toList) ps
theorem fill_eq (os : List (Nat × Nat)) (place : Nat → Option (Nat × Nat)) (hp : ∀ i, place i = os[i]?) : ∀ (ps : List (Nat × Value)) (cs : List Value) (r : List Value), fillP os cs ps = some r → Instr.fill place cs.toArray ps = some r.toArray
  | [], cs, r, h => by simp [fillP] at h; subst h; rfl
  | (i, v) :: ps, cs, r, h => by
    unfold fillP at h
    unfold Instr.fill
    rw [hp i]
    cases ho : os[i]? with
    | none => rw [ho] at h; cases h
    | some q =>
      obtain ⟨off, size⟩ := q
      rw [ho] at h
      simp only at h ⊢
      by_cases hc : (v.cells.size ≠ size || off + v.cells.size > cs.length) = true
      · rw [if_pos hc] at h; cases h
      · rw [if_neg hc] at h
        have hc' : ¬ (v.cells.size ≠ size || off + v.cells.size > cs.toArray.size) = true := by simpa using hc
        rw [if_neg hc']
        have hfit : off + v.cells.toList.length ≤ cs.length := by
          simp only [Bool.or_eq_true, not_or, decide_eq_true_eq] at hc
          have := hc.2
          simp; omega
        have e : (v.cells.zipIdx.foldl (fun (cs : Array Value) (c : Value × Nat) => cs.setIfInBounds (off + c.2) c.1) cs.toArray) = (splice cs off v.cells.toList).toArray := by
          have := fold_set v.cells.toList off 0 cs.toArray (by simpa using hfit)
          simp only [Nat.add_zero] at this
          rw [← Array.toList_inj]
          simp only [List.toList_toArray] at this ⊢
          rw [← this, ← Array.foldl_toList, Array.toList_zipIdx]
        rw [e]
        exact fill_eq os place hp ps _ r h
theorem Qt.build {t : TypeId} {parts : Array (Nat × Operand)} (os : List (Nat × Nat)) (zs cs : List Value) (pv : List (Nat × Value)) (ho : offs P t = some os) (hz : zeroB P t zs) (hp : parts.toList.map (fun p => (p.1, ev n f p.2)) = pv.map fun p => (p.1, some p.2)) (hf : fillP os zs pv = some cs) : Qt P B n S ⟨d, .build t parts, ty, pos, af, gd⟩ f (.agg cs.toArray) := ⟨fun w _ => by
  have hpv : parts.toList.map (fun (p : Nat × Operand) => (p.1, evu n f p.2)) = pv := by
    have e := congrArg (List.map (fun p : Nat × Option Value => (p.1, p.2.getD undef))) hp
    simp only [List.map_map, Function.comp_def, Option.getD_some, List.map_id'] at e
    exact e
  unfold offs at ho
  split at ho
  · rename_i fs hu
    unfold zeroB at hz
    cases hi : P.info? t with
    | none => rw [hi] at hz; cases hz
    | some i =>
      rw [hi] at hz
      simp only [Option.bind_some] at hz
      cases hzz : i.zero with
      | none => rw [hzz] at hz; cases hz
      | some z =>
        rw [hzz] at hz
        simp only [Option.map_some, Option.some.injEq] at hz
        have key : ∀ (l : List Field) (os : List (Nat × Nat)), l.mapM (fun f => (szOf P f.type).map (Prod.mk f.offset)) = some os → (l.mapM (fun f => Functor.map (Prod.mk f.offset) (sizeOf f.type)) : Sem (List (Nat × Nat))).run P w = .ok os w := by
          intro l
          induction l with
          | nil => intro os h; simp at h; subst h; simp
          | cons a l ih =>
            intro os h
            rw [List.mapM_cons] at h
            cases ha : szOf P a.type with
            | none => rw [ha] at h; simp at h
            | some k =>
              rw [ha] at h
              cases hl : l.mapM (fun f => (szOf P f.type).map (Prod.mk f.offset)) with
              | none => rw [hl] at h; simp at h
              | some os' =>
                rw [hl] at h
                simp at h
                subst h
                obtain ⟨j, hj, hjs⟩ := info_of_size ha
                have := ih os' hl
                rw [List.mapM_cons]
                have h1 : (sizeOf a.type).run P w = .ok k w := by simp [sizeOf, typeInfo, hj, hjs]
                simp [h1, this]
        have hm : (fs.mapM (fun f => Functor.map (Prod.mk f.offset) (sizeOf f.type)) : Sem (Array (Nat × Nat))).run P w = .ok os.toArray w := by
          rw [Array.mapM_eq_mapM_toList]
          have := key fs.toList os ho
          simp [this]
        have hfl := fill_eq os (os[·]?) (fun i => rfl) pv zs cs hf
        show ((do pure (.value (← Instr.build t (parts.map fun p => (p.1, evu n f p.2)))) : Sem Next)).run P w = _
        simp [Instr.build, zeroValue, typeInfo, hi, hzz, run_underlying hu, hm, hpv, hz, hfl]
  · cases ho⟩
end
end Go.Proofs.Ytdjfibkpmmcefaa
