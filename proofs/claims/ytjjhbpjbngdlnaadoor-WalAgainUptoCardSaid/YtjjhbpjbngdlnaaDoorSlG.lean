/- More rules: numbers of 64 bits without sign, least and greatest, bytes of strings. Conditions: of each rule its own. -/
import Derived.Test.YtjjhbpjbngdlnaaDoorSlF
namespace Go.Proofs.YtjjhbpjbngdlnaaDoor
open Go.RowKit
section
variable {P : Program} {B : Base} {n : Nat} {S l r : List Assn} {f : Fr} {K : Value → List Assn → Prop}
variable {d : Option Tmp} {ty : TypeId} {pos : String} {af : Array Edge} {gd : Option (Nat × Bool)}

theorem Own.tl {w : World} {A : Assn} (H : Own B w (A :: l)) : Own B w l := H.map fun _ k => k.tail
theorem Qt.or64 {t t2 : TypeId} {x y : Operand} {a : UInt64} {b' : Int} (b : UInt64) (hx : ev n f x = some (.int .u64 a.toNat)) (hy : ev n f y = some (.int .u64 b')) (hb : b' = b.toNat) : Qt P B n S ⟨d, .binOp .or t x y t2, ty, pos, af, gd⟩ f (.int .u64 (a ||| b).toNat) := ⟨fun w _ => by
  subst hb
  have ha : BitVec.ofInt 64 (a.toNat : Int) = a.toBitVec := by rw [ofInt_nat]; simp
  have hb : BitVec.ofInt 64 (b.toNat : Int) = b.toBitVec := by rw [ofInt_nat]; simp
  have wr : ∀ r : UInt64, IntKind.u64.wrap (r.toBitVec.toNat : Int) = (r.toNat : Int) := fun r => wru64 (by omega) (by have := r.toNat_lt; have e : r.toBitVec.toNat = r.toNat := rfl; omega)
  have h : (Op.intBits .or .u64 (a.toNat : Int) (b.toNat : Int)).run P w = .ok (.int .u64 (a ||| b).toNat) w := by
    show Sem.run P (pure (Value.int .u64 (IntKind.u64.wrap ((BitVec.ofInt 64 (a.toNat : Int) ||| BitVec.ofInt 64 (b.toNat : Int)).toNat : Int)))) w = _
    rw [ha, hb, ← UInt64.toBitVec_or, wr]; rfl
  simp [execOp, evu_eq hx, evu_eq hy, eqGuard, Go.binOp, h]⟩
theorem Qt.shl64 {t t2 : TypeId} {x y : Operand} {a : UInt64} {k : IntKind} (hx : ev n f x = some (.int .u64 a.toNat)) (hy : ev n f y = some (.int k 8)) : Qt P B n S ⟨d, .binOp .shl t x y t2, ty, pos, af, gd⟩ f (.int .u64 (a <<< 8).toNat) := ⟨fun w _ => by
  have e : IntKind.u64.wrap ((a.toNat : Int) * 2 ^ 8) = ((a <<< 8).toNat : Int) := by
    rw [UInt64.toNat_shiftLeft]
    simp [IntKind.wrap, IntKind.bits, IntKind.signed, Nat.shiftLeft_eq]
  have h : (Op.shift .shl .u64 (a.toNat : Int) k 8).run P w = .ok (.int .u64 (a <<< 8).toNat) w := by
    rw [← e]
    simp [Op.shift, IntKind.bits]
  simp [execOp, evu_eq hx, evu_eq hy, eqGuard, Go.binOp, h]⟩
theorem Qt.shr64 {t t2 : TypeId} {x y : Operand} {a : UInt64} {k : IntKind} {i : Int} (j : Nat) (hx : ev n f x = some (.int .u64 a.toNat)) (hy : ev n f y = some (.int k i)) (hi : i = (j : Int)) (hj : j < 64) : Qt P B n S ⟨d, .binOp .shr t x y t2, ty, pos, af, gd⟩ f (.int .u64 (a.toNat / 2 ^ j : Nat)) := ⟨fun w _ => by
  subst hi
  have e : (a.toNat : Int).fdiv (2 ^ j) = ((a.toNat / 2 ^ j : Nat) : Int) := by
    rw [Int.fdiv_eq_ediv_of_nonneg _ (by exact_mod_cast Nat.zero_le _)]
    push_cast; rfl
  have h : (Op.shift .shr .u64 (a.toNat : Int) k (j : Int)).run P w = .ok (.int .u64 (a.toNat / 2 ^ j : Nat)) w := by
    have : min j 64 = j := by omega
    simp [Op.shift, IntKind.bits, this]
  simp [execOp, evu_eq hx, evu_eq hy, eqGuard, Go.binOp, h]⟩
theorem wr8_nat (m : Nat) : IntKind.u8.wrap (m : Int) = ((UInt8.ofNat m).toNat : Int) := by
  simp [IntKind.wrap, IntKind.bits, IntKind.signed]
theorem wru64_i64 (m : Int) : IntKind.u64.wrap m = ((UInt64.ofInt m).toNat : Int) := by
  simp [IntKind.wrap, IntKind.bits, IntKind.signed, UInt64.ofInt]
  omega
theorem wr64_u64 (m : Int) (h0 : -9223372036854775808 ≤ m) (h1 : m < 9223372036854775808) : IntKind.i64.wrap ((UInt64.ofInt m).toNat : Int) = m := by
  rw [← wru64_i64]
  simp [IntKind.wrap, IntKind.bits, IntKind.signed]
  omega
theorem Qt.max {x y : Operand} {k : IntKind} {a b : Int} (hx : ev n f x = some (.int k a)) (hy : ev n f y = some (.int k b)) {ts : Array TypeId} : Qt P B n S ⟨d, .call ⟨.builtin .max, #[x, y], ts⟩, ty, pos, af, gd⟩ f (.int k (Max.max a b)) := ⟨fun w _ => by
  have h : (if a < b then b else a) = Max.max a b := by split <;> omega
  have h' : (if b > a then b else a) = Max.max a b := by split <;> omega
  simp [execOp, resolve, invoke, builtin, Builtin.max_, Builtin.max2, evu_eq hx, evu_eq hy, h, h']⟩
theorem Qt.min {x y : Operand} {k : IntKind} {a b : Int} (hx : ev n f x = some (.int k a)) (hy : ev n f y = some (.int k b)) {ts : Array TypeId} : Qt P B n S ⟨d, .call ⟨.builtin .min, #[x, y], ts⟩, ty, pos, af, gd⟩ f (.int k (Min.min a b)) := ⟨fun w _ => by
  have h : (if b < a then b else a) = Min.min a b := by split <;> omega
  simp [execOp, resolve, invoke, builtin, Builtin.min_, Builtin.min2, evu_eq hx, evu_eq hy, h]⟩
/-- A byte of a string. -/
theorem Qt.indexS {t : TypeId} {x y : Operand} {a : List UInt8} {k : IntKind} {i : Int} (j : Nat) (ht : isStr P t = true) (hx : ev n f x = some (.string (strOf a))) (hy : ev n f y = some (.int k i)) (hj : i = (j : Int)) (hl : j < a.length) :
    Qt P B n S ⟨d, .index t x y, ty, pos, af, gd⟩ f (.int .u8 (a[j]).toNat) := ⟨fun w _ => by
  subst hj
  have hu := isStr_spec ht
  have hg : (strOf a)[j]? = some a[j] := by
    rw [getElem?_pos _ _ (by rw [size_strOf]; exact hl)]
    rfl
  simp [execOp, Instr.index, evu_eq hx, evu_eq hy, asIntOf, run_underlying hu, hg]⟩

/-! append of so many noughts: 'append(s, make([]T, m)...)' -/
theorem zeroCells_one {z : Value} {zv : Value} (hz : z.cells = #[zv]) (m : Nat) : Builtin.zeroCells z.cells m = (List.replicate m zv).toArray := by
  rw [hz]
  unfold Builtin.zeroCells
  apply Array.ext'
  apply List.ext_getElem
  · simp
  · intro i h1 h2
    simp at h1
    simp [Nat.mod_one]
section
variable (w : World)
theorem run_append_room_z (t tx ty e : TypeId) (i : TypeInfo) (z zv : Value) (ki k : IntKind) (ht : P.underlying t = some (.slice e)) (hk : P.underlying tx = some (.int ki)) (hi : P.info? e = some i) (hz : i.zero = some z) (hzc : z.cells = #[zv]) (h1 : zv.oneCell' = true) (hsz : i.size = 1) (b off sLen sCap m : Nat)
    (hm : m * i.bytes ≤ 281474976710656) (hm2 : m < 9223372036854775808) (hroom : sLen + m ≤ sCap) (hc : ∀ j, j < m → (w.cell? ⟨b, off + sLen + j, none⟩).isSome = true) (hf : ∀ j, j < m → w.frozen? ⟨b, off + sLen + j, none⟩ = false) :
    (Builtin.append_ #[t, tx] ty #[.slice (some ⟨b, off, none⟩) sLen sCap, .int k m]).run P w = .ok (.slice (some ⟨b, off, none⟩) (sLen + m) sCap) (w.setCells b (off + sLen) (List.replicate m zv)) := by
  have hst := run_storeCells_cells (P := P) b (off + sLen) (List.replicate m zv) 0 w (by simpa using hc) (by simpa using hf) (by simp [h1])
  simp only [Nat.add_zero] at hst
  have hw : IntKind.i64.wrap (m : Int) = m := wr64 (by omega) (by omega)
  have hb : ¬ (281474976710656 < (m : Int) * (i.bytes : Int)) := by
    have : ((m * i.bytes : Nat) : Int) ≤ ((281474976710656 : Nat) : Int) := Int.ofNat_le.2 hm
    rw [Int.natCast_mul] at this; omega
  have hn : ¬ ((m : Int) < 0) := by omega
  have hw0 : IntKind.i64.wrap 0 = 0 := by decide
  by_cases h0 : m = 0
  · subst h0
    simp [Builtin.append_, run_underlying ht, run_underlying hk, sizeOf, typeInfo, hi, hsz, hw0, asInt, asIntOf, Addr.add_lit] at hst hroom ⊢
    simp [hroom, storeCells, setCells_nil]
  · simp [Builtin.append_, run_underlying ht, run_underlying hk, sizeOf, typeInfo, zeroValue, hi, hz, hsz, hw, asInt, asIntOf, hb, hn, hroom, h0, zeroCells_one hzc, Addr.add_lit, hst]
theorem run_append_grow_z (t tx ty e : TypeId) (i : TypeInfo) (z zv : Value) (ki k : IntKind) (ht : P.underlying t = some (.slice e)) (hk : P.underlying tx = some (.int ki)) (hi : P.info? e = some i) (hz : i.zero = some z) (hzc : z.cells = #[zv]) (hsz : i.size = 1) (base : Option Addr) (sLen sCap m : Nat) (olds : List Value)
    (hold : (Builtin.firstCells 1 sLen (.slice base sLen sCap)).run P w.drew = .ok olds.toArray w.drew) (hm : m * i.bytes ≤ 281474976710656)
    (hlc : sLen ≤ sCap) (hg : sCap < sLen + m) (h63 : ((sLen + m : Nat) : Int) ≤ 9223372036854775807) (hfit : Builtin.nextslicecap (sLen + m) sCap * i.bytes ≤ 281474976710656) :
    (Builtin.append_ #[t, tx] ty #[.slice base sLen sCap, .int k m]).run P w =
      .ok (.slice (some ⟨w.heap.size, 0, none⟩) (sLen + m) (grownCap w (sLen + m) sCap e))
        (w.drew.alloc (.cells ((olds ++ List.replicate m zv).toArray ++ Builtin.zeroCells z.cells (grownCap w (sLen + m) sCap e - (sLen + m))) e)) := by
  have hn : ¬ (sLen + m ≤ sCap) := by omega
  have h63' : ¬ (9223372036854775807 < ((sLen : Int) + (m : Int))) := by omega
  have hmx : ¬ (IntKind.i64.max < ((sLen : Int) + (m : Int))) := by simpa [IntKind.max, IntKind.bits, IntKind.signed] using h63'
  have h48' : ¬ (281474976710656 < Builtin.nextslicecap (sLen + m) sCap * i.bytes) := by omega
  have hw : IntKind.i64.wrap (m : Int) = m := wr64 (by omega) (by omega)
  have hb : ¬ (281474976710656 < (m : Int) * (i.bytes : Int)) := by
    have : ((m * i.bytes : Nat) : Int) ≤ ((281474976710656 : Nat) : Int) := Int.ofNat_le.2 hm
    rw [Int.natCast_mul] at this; omega
  have hn0 : ¬ ((m : Int) < 0) := by omega
  have hw0 : IntKind.i64.wrap 0 = 0 := by decide
  have h0 : ¬ m = 0 := by omega
  simp [Builtin.append_, run_underlying ht, run_underlying hk, sizeOf, typeInfo, zeroValue, hi, hz, hsz, hw, asInt, asIntOf, hb, hn0, h0, hn, hmx, h63', h48', Question.forced, hold, newRow, grownCap, zeroCells_one hzc]
  congr 2
  apply Array.ext'
  simp [List.append_assoc, ← List.replicate_append_replicate]
theorem run_append_z_k {t tx ty e : TypeId} {bytes : Nat} (E : ElemOk P t e 1 bytes) (z zv : Value) (ki k : IntKind) (hk : P.underlying tx = some (.int ki)) (hzz : (P.info? e).bind (·.zero) = some z) (hzc : z.cells = #[zv]) (h1 : zv.oneCell' = true)
    {g n cap : Nat} {xs : List Value} (hown : w.ownsRow 0 e 1 (.slice (some ⟨g, 0, none⟩) n cap) n xs) (m : Nat) (h63 : n + m ≤ maxLen) (hbytes : (n + m) * bytes ≤ 140737488355328) :
    ∃ v' w', (Builtin.append_ #[t, tx] ty #[.slice (some ⟨g, 0, none⟩) n cap, .int k m]).run P w = .ok v' w' ∧ AppPost 0 e 1 (.slice (some ⟨g, 0, none⟩) n cap) n xs m (List.replicate m zv) w v' w' := by
  obtain ⟨i, z', hi, hz, hsz, hby, hzs⟩ := E.ex
  rw [hi] at hzz
  simp only [Option.bind_some] at hzz
  rw [hz] at hzz
  cases hzz
  subst hby
  have hsmall : n + m ≤ 9223372036854775807 := by simp only [maxLen] at h63; omega
  have hlen : (xs ++ List.replicate m zv).length = (n + m) * 1 := by rw [List.length_append, hown.1, List.length_replicate]; omega
  have hmb : m * i.bytes ≤ 281474976710656 := by
    have : m * i.bytes ≤ (n + m) * i.bytes := Nat.mul_le_mul_right _ (by omega)
    omega
  have hm63 : m < 9223372036854775808 := by omega
  rcases hown.2 with ⟨hn, _⟩ | ⟨g', cap', cur, he, hbg, hg, hnc, hcm, hcs, htake⟩
  · cases hn
  · injection he with e1 _ e2
    injection e1 with e1
    injection e1 with e1
    subst e1; subst e2
    by_cases hroom : n + m ≤ cap
    · have hfit : n * 1 + (List.replicate m zv).length ≤ cur.size := by rw [List.length_replicate, hcs]; omega
      have hr := run_append_room_z (P := P) w t tx ty e i z zv ki k E.ht hk hi hz hzc h1 hsz g 0 n cap m hmb hm63 hroom
        (fun j hj => by rw [cell_of_row w g _ cur e (0, 0) hg]; simp; omega) (fun j hj => frozen_of_row w g _ cur e hg)
      rw [Nat.zero_add] at hr
      have hr2 := setCells_row P w g e (List.replicate m zv) n cur hg (by simpa using hfit) (by simp [h1])
      rw [hr2] at hr
      refine ⟨_, _, hr, ⟨⟨hlen, .inr ⟨g, cap, _, rfl, hbg, setRow_heap w g cur _ e _ hg, hroom, hcm, ?_, ?_⟩⟩, (Kept.refl _ _).setRow (by simp [Value.ownBlock]) _, fun q hq => .inl hq, by simp, ?_⟩⟩
      · rw [List.size_toArray, length_splice _ _ _ (by simpa using hfit)]; simpa using hcs
      · rw [Nat.mul_one] at htake
        unfold splice
        simp only [htake]
        rw [← List.append_assoc, ← hlen]
        exact List.take_left
      · intro hm
        subst hm
        refine ⟨rfl, ?_⟩
        rw [← hr2]; rfl
    · have holds : ∀ j u, xs[j]? = some u → w.cell? ((⟨g, 0, none⟩ : Addr).add j) = some u := hown.cells (g := g) rfl
      have hf := run_firstCells_some (P := P) w.drew 1 n ⟨g, 0, none⟩ n cap xs hown.1 (by simpa using holds)
      have hr := run_append_grow_z (P := P) (ty := ty) (tx := tx) w t e i z zv ki k E.ht hk hi hz hzc hsz (some ⟨g, 0, none⟩) n cap m xs hf hmb hnc (by omega) (by omega) (growslice_fits (by omega) hbytes)
      refine ⟨_, _, hr, ⟨?_, (Kept.refl _ _).drew.alloc _, fun q hq => .inr (by simpa [Value.ownBlock] using hq.symm), by simp, fun hm => by omega⟩⟩
      have hge := grownCap_ge w (n + m) cap e
      have hcm2 : grownCap w (n + m) cap e ≤ maxLen := grownCap_le_maxLen w (n + m) cap e h63
      refine ⟨hlen, .inr ⟨w.heap.size, _, _, rfl, Nat.zero_le _, heap_alloc_new w.drew _, hge, hcm2, ?_, ?_⟩⟩
      · rw [Array.size_append, List.size_toArray, size_zeroCells, hzs, hlen, ← Nat.add_mul]
        congr 1
        omega
      · rw [Array.toList_append, ← hlen]
        exact List.take_left
end
theorem Ef.appendZ {t tx e bytes : Nat} {x y : Operand} {g k m c : Nat} {xs : List Value} {ki kk : IntKind} {im : Int} {ty2 : TypeId} (z zv : Value) (E : ElemOk P t e 1 bytes) (hk : P.underlying tx = some (.int ki)) (hzz : (P.info? e).bind (·.zero) = some z) (hzc : z.cells = #[zv]) (h1 : zv.oneCell' = true)
    (hx : ev n f x = some (.slice (some ⟨g, 0, none⟩) k c)) (hy : ev n f y = some (.int kk im)) (him : im = (m : Int))
    [hT : TakeR (.slice (some ⟨g, 0, none⟩) k c) l e 1 k xs r] (h63 : k + m ≤ maxLen) (hbytes : (k + m) * bytes ≤ 140737488355328)
    (h : ∀ p c, (0 < k + m → ∃ g, p = some ⟨g, 0, none⟩) → K (.slice p (k + m) c) (row (.slice p (k + m) c) e 1 (k + m) (xs ++ List.replicate m zv) :: r)) : Ef P B n ⟨d, .call ⟨.builtin .append, #[x, y], #[t, tx]⟩, ty2, pos, af, gd⟩ f l K := ⟨fun w next Q ho hk2 => by
  subst him
  have ho2 := ho.takeR (k := hT)
  obtain ⟨v', w', hr, hp⟩ := run_append_z_k (P := P) (tx := tx) (ty := ty2) w E z zv ki kk hk hzz hzc h1 ho2.row_owns m h63 hbytes
  have ho3 := ho2.row_kept hp.kept hp.own hp.blk
  obtain ⟨p, c', rfl, hpg, _⟩ := ho3.row_slice
  unfold Oper.wp execOp
  simp only [eval_act', resolve, invoke, builtin, Sem.run_bind, Sem.run_pure, Result.andThen_ok, List.map_toArray, List.map_cons, List.map_nil, evu_eq hx, evu_eq hy, hr]
  exact hk2 _ w' _ (h p c' hpg) ho3⟩
/-- 'copy(dst, src)' of one-cell elements, something at least. -/
theorem Ef.copy {dT sT e g o dLen dCap sLen sCap : Nat} {x y : Operand} {a : Option Addr} {C cs : List Value} {src : List Value} {ty2 : TypeId} (hk : sliceB P dT e 1 = true) (hx : ev n f x = some (.slice (some ⟨g, o, none⟩) dLen dCap)) (hy : ev n f y = some (.slice a sLen sCap))
    (hS : RdV B l (.slice a sLen sCap) src) (m : Nat) (hm : m = Nat.min sLen dLen) (hpos : 0 < m) (hcs : cs = src.take m) (hl : sLen = src.length) (h1 : ∀ v ∈ src, v.oneCell' = true)
    [k : StoreAt g l C (splice C o cs) r] (hfit : o + m ≤ C.length) (h : K (.int .i64 m) r) : Ef P B n ⟨d, .call ⟨.builtin .copy, #[x, y], #[dT, sT]⟩, ty2, pos, af, gd⟩ f l K := ⟨fun w next Q ho hk2 => by
  have hml : m ≤ src.length := by rw [hm, hl]; exact Nat.min_le_left _ _
  have hcl : cs.length = m := by rw [hcs, List.length_take]; omega
  obtain ⟨X, t', hg, ho'⟩ := ho.store (g := g) (C := C) (D := splice C o cs) (length_splice _ _ _ (by omega))
  obtain ⟨hu, hs⟩ := sliceB_spec hk
  obtain ⟨a2, c2, e2, h3 | ⟨b, o2, e3, h4⟩⟩ := hS
  · rw [h3] at hml; simp at hml; omega
  · injection e2 with e2 _ _
    subst e2; subst e3
    have hr := run_copy_row (P := P) w dT sT ty2 e g o dLen dCap ⟨b, o2, none⟩ sLen sCap _ t' cs hu hs hg (by rw [hcl, hm]) (fun j v hv => by
      rw [Addr.add_mid]
      refine h4 w ho j v ?_
      rw [hcs, List.getElem?_take] at hv
      split at hv
      · exact hv
      · cases hv) (by simp; omega) (fun v hv => h1 v (by rw [hcs] at hv; exact List.mem_of_mem_take hv))
    have hsp := splice_append C X o cs (by omega)
    unfold splice at hsp
    simp only [List.append_assoc] at hr hsp
    rw [hsp] at hr
    unfold Oper.wp execOp
    simp only [eval_act', resolve, invoke, builtin, Sem.run_bind, Sem.run_pure, Result.andThen_ok, List.map_toArray, List.map_cons, List.map_nil, evu_eq hx, evu_eq hy, hr]
    refine hk2 _ _ _ (by rw [hcl]; exact h) ?_
    unfold splice at ho'
    simp only [List.append_assoc] at ho'
    exact ho'⟩
end
end Go.Proofs.YtjjhbpjbngdlnaaDoor
