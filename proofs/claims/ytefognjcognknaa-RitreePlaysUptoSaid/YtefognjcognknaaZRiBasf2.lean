/- The texts SlH Law Law2 StRd SlG RiA RiB, one behind the other: what the law leans on. Conditions: as each theorem says. -/
import Derived.Test.YtefognjcognknaaZRiBasf1
import Derived.Great.BuildSlice
import Derived.Deep.Slices
/- Slice literals of one-cell elements; '[]byte("..")' of a constant, whose row bears the run-time's mark. Conditions: of each rule its own. -/
set_option linter.unusedSimpArgs false
set_option linter.unusedVariables false
namespace Go.Proofs.Ytefognjcognknaa
open Go.RowKit
section
variable {P : Program} {B : Base} {n : Nat} {S l r : List Assn} {f : Fr} {K : Value → List Assn → Prop} {Φ : Post}
variable {d : Option Tmp} {ty : TypeId} {pos : String} {af : Array Edge} {gd : Option (Nat × Bool)}

/-- A block that bears the run-time's mark. -/
def fblk (g : Nat) (C : List Value) (t : TypeId) (fr : Nat × Nat) : Assn := fun h => h g = some (.cells C.toArray t fr)
instance (g : Nat) (l : List Assn) (C : List Value) (t : TypeId) (fr : Nat × Nat) : CellsAt g (fblk g C t fr :: l) C := ⟨fun _ ⟨_, _, _, a, _, e, _⟩ => ⟨[], t, fr, by rw [List.append_nil]; exact a.p _ _ e⟩⟩
class FrzB (g : Nat) (l : List Assn) (r : outParam (List Assn)) : Prop where
  cut : ∃ C t m, (∀ h, Has l h → Has (blk g C t :: m) h) ∧ ∀ h, Has (fblk g C t (C.length, C.length + 1) :: m) h → Has r h
instance (g : Nat) (C : List Value) (t : TypeId) (l : List Assn) : FrzB g (blk g C t :: l) (fblk g C t (C.length, C.length + 1) :: l) := ⟨C, t, l, fun _ H => H, fun _ H => H⟩
instance (g : Nat) (A : Assn) (l r : List Assn) [k : FrzB g l r] : FrzB g (A :: l) (A :: r) := ⟨by
  obtain ⟨C, t, m, h1, h2⟩ := k.cut
  exact ⟨C, t, A :: m, fun h H => Has.swap (Has.cons_imp h1 H), fun h H => Has.cons_imp h2 (Has.swap H)⟩⟩
/-- A slice literal of one-cell elements, all of them told. -/
theorem Ef.lit {t e len : Nat} {parts : Array (Nat × Operand)} (vs : List Value) (hk : sliceB P t e 1 = true) (hz : ((P.info? e).bind (·.zero)).isSome = true) (hp : parts.toList.map (fun p => (p.1, ev n f p.2)) = (vs.zipIdx 0).map fun x => (x.2, some x.1)) (h1 : ∀ v ∈ vs, v.cells = #[v]) (hl : vs.length = len) (h0 : 0 < len) (h24 : len ≤ 16777216)
    (h : ∀ g, K (.slice (some ⟨g, 0, none⟩) len len) (blk g vs e :: l)) : Ef P B n ⟨d, .buildSlice t len parts, ty, pos, af, gd⟩ f l K := ⟨fun w next Q ho hk' => by
  obtain ⟨q1, q2⟩ := sliceB_spec hk
  obtain ⟨i, hi, his⟩ := info_of_size q2
  rw [hi] at hz
  obtain ⟨z, hzz⟩ := Option.isSome_iff_exists.1 hz
  have hpe : (parts.map fun p => (p.1, evu n f p.2)).toList = (vs.zipIdx 0).map fun x => (x.2, x.1) := by
    rw [Array.toList_map]
    have e := congrArg (List.map (fun p : Nat × Option Value => (p.1, p.2.getD undef))) hp
    simp only [List.map_map, Function.comp_def, Option.getD_some] at e
    exact e
  have hr := run_buildSlice (P := P) w t e len (parts.map fun p => (p.1, evu n f p.2)) vs.toArray i z q1 hi (by simpa using hzz) (by rw [his]; omega) (by rw [his]; omega) (by rw [hpe, his]; exact Great.fill_flat _ _ h1 (by simp [hl]))
  unfold Oper.wp execOp
  simp only [eval_act', Sem.run_bind, hr, Sem.run_pure, Result.andThen_ok]
  exact hk' _ _ _ (h _) (ho.alloc vs e)⟩
end
end Go.Proofs.Ytefognjcognknaa

/- The frame of a law's proof: what the walk owes, and how the row follows; arguments opened as lists. Conditions: none. -/
set_option linter.unusedSimpArgs false
set_option linter.unusedVariables false
namespace Go.Proofs.Ytefognjcognknaa
open Go.ChangeShapes Go.WideShapes Go.ChangeAt Go.RowKit

theorem Try.own : ownKnob Try.prog.godebug = none := by kernel_rfl
theorem Try.laidOut : laidOutB Try.prog = true := by kernel_rfl

section
variable {H : Type} {enc : TypeId × Value → H} {P : Program}

theorem trodAll_stays (hl : laidOutB P = true) {W W' : World} (hb : Below W.heap.size W W') : ∀ (ts : List TypeId) (vs : List Value) (ds : List (DataW H)) (ps : List MemPlace), (∀ t ∈ ts, P.readableRec t = true ∧ t < P.types.size) →
    (∀ x ∈ ps, x.block < W.heap.size) → DataW.TrodAll enc P W 0 (fun _ => true) true ts vs ds ps → DataW.TrodAll enc P W' 0 (fun b => decide (b < W.heap.size)) true ts vs ds ps
  | [], [], [], ps, _, _, h => h
  | t :: ts, v :: vs, d :: ds, ps, hr, hlt, h => by
    obtain ⟨p, q, h1, h2, rfl⟩ := h
    refine ⟨p, q, Below.trod hl (hr t (by simp)).1 (hr t (by simp)).2 h1 hb (fun x hx => hlt x (by simp [hx])), trodAll_stays hl hb ts vs ds q (fun t ht => hr t (by simp [ht])) (fun x hx => hlt x (by simp [hx])) h2, rfl⟩
  | [], [], _ :: _, _, _, _, h => h
  | [], _ :: _, _, _, _, _, h => h
  | _ :: _, [], _, _, _, _, h => h
  | _ :: _, _ :: _, [], _, _, _, h => h

/-- What a law's row asks behind the call, out of what the walk gives. -/
theorem post_law {f : Func} {s : ChangeSpec} {W W' : World} {args : Array Value} {ds gs : List (DataW H)} {before : List MemPlace} (hl : laidOutB P = true)
    (hW : DataW.Whole enc P f.params.toList s.vars false W args.toList ds gs before) (hvars : s.vars = []) (hres : s.fn H (ds ++ gs) = { results := [.lit (.bool true)], args := ds })
    (tb : TypeId) (htb : P.underlying tb = some .bool) (hrt : f.resultTypes = #[tb]) (hr : ∀ t ∈ f.params.toList, P.readableRec t = true ∧ t < P.types.size) (hb : Below W.heap.size W W') :
    s.post enc P f false true false false W args (.bool true) W' := by
  have hW' := hW
  obtain ⟨p, q, hA, hV, rfl, hfz, hnd⟩ := hW
  rw [hvars] at hV
  obtain ⟨rfl, rfl⟩ := trodVars_none hV
  have hlt : ∀ x ∈ p, x.block < W.heap.size := fun x hx => by simpa using hW'.lt x (by simp [hx])
  refine ⟨ds, [], p ++ [], [], p, [], hW', ?_, ?_, ?_, hb.frame _, fun h => by cases h⟩
  · rw [hres, hrt]
    exact trodAll_cons_mk (shut_bool htb _) trodAll_mk0
  · rw [hres]
    exact trodAll_stays hl hb _ _ _ _ hr hlt hA
  · rw [hres, hvars]
    rfl
end

/-! ### Arguments as lists -/
section
variable {H : Type} {enc : TypeId × Value → H} {P : Program} {W : World}

abbrev Tr (enc : TypeId × Value → H) (P : Program) (W : World) (fuel : Nat) (t : TypeId) (cs : List Value) : Option (DataW H × List MemPlace) := DataW.trod enc P W 0 (fun _ => true) true fuel t cs

/-- A slice in memory whose elements, of so many cells, stand to the list's in the relation R. -/
def SliceAt (W : World) (sz : Nat) {α : Type} (R : List Value → α → Prop) (v : Value) (l : List α) : Prop :=
  (v = .slice none 0 0 ∧ l = []) ∨ ∃ a cap, v = .slice (some a) l.length cap ∧ l.length ≤ cap ∧ cap ≤ maxLen ∧
    ∀ i (hi : i < l.length), ∃ cells b o, a = ⟨b, o, none⟩ ∧ b < W.heap.size ∧ cells.length = sz ∧ W.rangeAt b (o + i * sz) cells ∧ R cells l[i]

theorem choose_list {α : Type} {n : Nat} {Q : Nat → α → Prop} (h : ∀ i, i < n → ∃ a, Q i a) : ∃ l : List α, l.length = n ∧ ∀ i (hi : i < l.length), Q i l[i] := by
  induction n with
  | zero => exact ⟨[], rfl, fun i hi => by simp at hi⟩
  | succ n ih =>
    obtain ⟨l, hl, h2⟩ := ih (fun i hi => h i (by omega))
    obtain ⟨a, ha⟩ := h n (by omega)
    refine ⟨l ++ [a], by simp [hl], fun i hi => ?_⟩
    by_cases hin : i < l.length
    · rw [List.getElem_append_left hin]; exact h2 i hin
    · have : i = n := by simp at hi; omega
      subst this
      simp only [← hl, List.getElem_concat_length]; rw [hl]; exact ha

theorem map_sum_le {α β : Type} (f : α → Nat) (g : β → Nat) : ∀ (l : List α) (D : List β), l.length = D.length → (∀ i (h1 : i < l.length) (h2 : i < D.length), f l[i] ≤ g D[i]) → (l.map f).sum ≤ (D.map g).sum
  | [], [], _, _ => by simp
  | x :: l, y :: D, hl, h => by
    have h0 := h 0 (by simp) (by simp)
    have := map_sum_le f g l D (by simpa using hl) (fun i h1 h2 => by have h3 := h (i + 1) (by simpa using h1) (by simpa using h2); simp only [List.getElem_cons_succ] at h3; exact h3)
    simp only [List.map_cons, List.sum_cons]
    simp only [List.getElem_cons_zero] at h0
    omega
  | [], _ :: _, hl, _ => by simp at hl
  | _ :: _, [], hl, _ => by simp at hl

theorem bulkAll_sum (l : List (DataW H)) : Rows.uptoBulkAll l = (l.map Rows.uptoBulk).sum := by
  induction l with
  | nil => rfl
  | cons d l ih => simp [Rows.uptoBulkAll, ih]

/-- A slice argument: each element read by what reads its type. -/
theorem open_slice_R {t e : TypeId} {sz fuel : Nat} {cs : List Value} {x : DataW H × List MemPlace} {α : Type} {R : List Value → α → Prop} {B : α → Nat} (ht : P.underlying t = some (.slice e)) (hc : P.cellsOf e = sz) (hsz : 0 < sz)
    (hR : ∀ n cs y, Tr enc P W n e cs = some y → ∃ a, R cs a ∧ B a ≤ Rows.uptoBulk y.1) (h : Tr enc P W fuel t cs = some x) :
    ∃ v l, cs = [v] ∧ SliceAt W sz R v l ∧ (l.map B).sum + 1 ≤ Rows.uptoBulk x.1 ∧ l.length + 1 ≤ Rows.uptoBulk x.1 := by
  subst hc
  rcases Deep.open_slice ht h with ⟨rfl, rfl⟩ | ⟨a, len, cap, m, n, D, Pl, rfl, hb, hl, hm, hmm, rfl, hx⟩
  · exact ⟨_, [], rfl, .inl ⟨rfl, rfl⟩, by simp [Rows.uptoBulk], by simp [Rows.uptoBulk]⟩
  · simp only [if_true] at hmm
    subst hmm
    obtain ⟨l, hll, hli⟩ := choose_list (n := len) (Q := fun i (y : α) => ∃ cells, W.cells? 0 (a.add (i * P.cellsOf e)) (P.cellsOf e) = some cells ∧ R cells y ∧ B y ≤ Rows.uptoBulk (D i)) (fun i hi => by
      obtain ⟨cs', h1, h2⟩ := hx i (by omega)
      obtain ⟨y, hy, hB⟩ := hR n cs' _ h2
      exact ⟨y, cs', h1, hy, hB⟩)
    refine ⟨_, l, rfl, .inr ⟨a, m, by rw [hll], by omega, hm, fun i hi => ?_⟩, ?_, ?_⟩
    · obtain ⟨cells, h1, h2, _⟩ := hli i hi
      obtain ⟨_, h4, h5⟩ := World.cells?_some h1
      have hsp : a.spot = none := by
        have h0 := hx 0 (by omega)
        obtain ⟨cs', g1, _⟩ := h0
        obtain ⟨_, g4, g5⟩ := World.cells?_some g1
        have := g5 0 hsz
        simp only [Nat.zero_mul] at this
        have hadd : (a.add 0).add 0 = a := by simp [Addr.add]
        rw [hadd, List.getElem?_eq_getElem (by omega)] at this
        unfold World.cell? at this
        cases hh : W.heap[a.block]? with
        | none => simp [hh] at this
        | some o =>
          cases o <;> simp [hh] at this
          have hq := this.1
          cases hs : a.spot with
          | none => rfl
          | some s => simp [hs] at hq
      obtain ⟨b, o, sp⟩ := a
      simp only at hsp
      subst hsp
      have hcell : W.rangeAt b (o + i * P.cellsOf e) cells := fun j v hj => by
        have hjl : j < P.cellsOf e := by have := (List.getElem?_eq_some_iff.1 hj).1; omega
        have := h5 j hjl
        rw [Addr.add_mid, Addr.add_mid] at this
        rw [this]; exact hj
      have hlt : b < W.heap.size := World.block_lt_of_cell? W _ (hcell 0 _ (List.getElem?_eq_getElem (by omega)))
      exact ⟨cells, b, o, rfl, hlt, h4, hcell, h2⟩
    · have := map_sum_le B Rows.uptoBulk l ((List.range len).map D) (by simp [hll]) (fun i h1 h2 => by
        obtain ⟨_, _, _, h3⟩ := hli i h1
        simpa using h3)
      simp only [Rows.uptoBulk, bulkAll_sum]
      omega
    · simp only [Rows.uptoBulk]
      have h1 : l.length ≤ Rows.uptoBulkAll ((List.range len).map D) := by
        rw [bulkAll_sum, hll]
        have : ∀ L : List Nat, L.length ≤ ((L.map D).map Rows.uptoBulk).sum := by
          intro L
          induction L with
          | nil => simp
          | cons a L ih =>
            simp only [List.map_cons, List.sum_cons, List.length_cons]
            have : 1 ≤ Rows.uptoBulk (D a) := by
              cases D a with
              | lit l => cases l <;> simp [Rows.uptoBulk]
              | _ => simp [Rows.uptoBulk]
            omega
        simpa using this (List.range len)
      omega

/-- A struct's field, by its type's number and its place. -/
theorem field_of {fs : Array Field} {n : Nat} {cs : List Value} {xs : List (DataW H × List MemPlace)} (hf : ∀ (i : Nat) (f : Field), fs[i]? = some f → Tr enc P W n f.type ((cs.drop f.offset).take (P.cellsOf f.type)) = xs[i]?)
    (i t off c : Nat) (h : (fs[i]?).map (fun f => (f.type, f.offset)) = some (t, off)) (hc : P.cellsOf t = c) : Tr enc P W n t ((cs.drop off).take c) = xs[i]? := by
  cases hq : fs[i]? with
  | none => simp [hq] at h
  | some f =>
    simp only [hq, Option.map_some, Option.some.injEq, Prod.mk.injEq] at h
    have := hf i f hq
    rw [h.1, h.2, hc] at this
    exact this

theorem read_i64 {e : TypeId} (he : P.underlying e = some (.int .i64)) (n : Nat) (cs : List Value) (y : DataW H × List MemPlace) (h : Tr enc P W n e cs = some y) : ∃ a : Int, (cs = [.int .i64 a] ∧ -9223372036854775808 ≤ a ∧ a ≤ 9223372036854775807) ∧ 1 ≤ Rows.uptoBulk y.1 := by
  obtain ⟨k, rfl, rfl, hw⟩ := DataW.trod_int he h
  exact ⟨k, ⟨rfl, by simpa [Lit.wf, IntKind.min, IntKind.max, IntKind.signed, IntKind.bits] using hw⟩, by simp [Rows.uptoBulk]⟩

end

theorem Try.upto_bound {H : Type} {l : List (DataW H)} (hk : Rows.uptoSmall H l = true) : Rows.uptoBulkAll l ≤ 1048576 := of_decide_eq_true hk
end Go.Proofs.Ytefognjcognknaa

/- From contracts over assertions to what a law's row owes; arguments that are only read. Conditions: none. -/
set_option linter.unusedSimpArgs false
set_option linter.unusedVariables false
namespace Go.Proofs.Ytefognjcognknaa
open Go.RowKit

def baseOf (W : World) : Base := ⟨W.os, W.tape, W.output, World.piece W⟩
theorem own_base (W : World) : Own (baseOf W) W [] := ⟨rfl, rfl, rfl, Piece.le_refl _, fun _ => none, ⟨fun _ => .inl rfl⟩, ⟨fun _ _ e => by cases e⟩, trivial⟩
theorem Own.keeps {W W' : World} {l : List Assn} (h : Own (baseOf W) W' l) : Kept [] W W' := by
  have hb : ∀ k o, W.heap[k]? = some o → W'.heap[k]? = some o := fun k o e => h.ro.p k o e
  refine ⟨h.os, h.tape, h.output, ?_, fun k hk _ => ?_⟩
  · rcases Nat.eq_zero_or_pos W.heap.size with h0 | h0
    · omega
    · have := lt_of_block (hb (W.heap.size - 1) _ (Array.getElem?_eq_getElem (by omega)))
      omega
  · rw [hb k _ (Array.getElem?_eq_getElem hk), Array.getElem?_eq_getElem hk]
theorem Fn.law {P : Program} {W : World} {g : FuncId} {args : Array Value} (h : Fn P (baseOf W) g args [] (fun v l => v = .bool true ∧ l = [])) : Calls P g args W fun e W' => e = .returned (.bool true) ∧ Kept [] W W' := by
  refine (h.run W [] (own_base W)).mono ?_
  rintro e w' ⟨v, l, rfl, ⟨rfl, rfl⟩, ho⟩
  exact ⟨rfl, ho.keeps⟩

theorem range_cell {W : World} {b o j : Nat} {v : Value} (h : W.cell? ⟨b, o + j, none⟩ = some v) : ∃ c t fr, W.heap[b]? = some (.cells c t fr) ∧ c[o + j]? = some v := by
  unfold World.cell? at h
  split at h
  · rename_i c e fr hb
    exact ⟨c, e, fr, hb, by simpa using h⟩
  · cases h
theorem roc_of {W : World} {b : Nat} {c : Array Value} {t : TypeId} {fr : Nat × Nat} (h : W.heap[b]? = some (.cells c t fr)) : ROc (baseOf W) b c.toList := ⟨[], t, fr, by simpa [baseOf, World.piece] using h⟩
/-- The elements of a slice, from what the row's reading gives. -/
theorem SliceAt.ro {α : Type} {W : World} {sz : Nat} {R : List Value → α → Prop} {v : Value} {l : List α} (h : SliceAt W sz R v l) (hsz : 0 < sz) : ∃ a cap, v = .slice a l.length cap ∧ (l = [] ∨ ∃ b o C, a = some ⟨b, o, none⟩ ∧ ROc (baseOf W) b C ∧ ∀ i (hi : i < l.length), ∃ cells, rdl C (o + i * sz) cells ∧ R cells l[i]) := by
  rcases h with ⟨rfl, rfl⟩ | ⟨a, cap, rfl, hl, hm, hi⟩
  · exact ⟨none, 0, rfl, .inl rfl⟩
  · refine ⟨some a, cap, rfl, ?_⟩
    by_cases h0 : l = []
    · exact .inl h0
    · right
      have hp : 0 < l.length := List.length_pos_iff.2 h0
      obtain ⟨cells, b, o, rfl, hb, hlen, hr, hR⟩ := hi 0 hp
      obtain ⟨c, t, fr, hbb, _⟩ := range_cell (hr 0 _ (List.getElem?_eq_getElem (by omega)))
      refine ⟨b, o, c.toList, rfl, roc_of hbb, fun i hil => ?_⟩
      obtain ⟨cells', b', o', e, _, hlen', hr', hR'⟩ := hi i hil
      injection e with e1 e2
      subst e1; subst e2
      refine ⟨cells', rdl_of fun j u hu => ?_, hR'⟩
      obtain ⟨c', t', fr', hb', hc'⟩ := range_cell (hr' j u hu)
      rw [hbb] at hb'
      injection hb' with e1
      injection e1 with e1
      subst e1
      simpa using hc'
end Go.Proofs.Ytefognjcognknaa

/- How texts and lists of texts read. Conditions: none. -/
set_option linter.unusedSimpArgs false
set_option linter.unusedVariables false
namespace Go.Proofs.Ytefognjcognknaa
open Go.ChangeShapes Go.WideShapes Go.ChangeAt Go.RowKit

section
variable {H : Type} {enc : TypeId × Value → H} {P : Program} {W : World}
end
end Go.Proofs.Ytefognjcognknaa

/- More rules: numbers of 64 bits without sign, least and greatest, bytes of strings. Conditions: of each rule its own. -/
set_option linter.unusedSimpArgs false
set_option linter.unusedVariables false
namespace Go.Proofs.Ytefognjcognknaa
open Go.RowKit
section
variable {P : Program} {B : Base} {n : Nat} {S l r : List Assn} {f : Fr} {K : Value → List Assn → Prop}
variable {d : Option Tmp} {ty : TypeId} {pos : String} {af : Array Edge} {gd : Option (Nat × Bool)}

theorem Own.tl {w : World} {A : Assn} (H : Own B w (A :: l)) : Own B w l := H.map fun _ k => k.tail
theorem Qt.shr64 {t t2 : TypeId} {x y : Operand} {a : UInt64} {k : IntKind} {i : Int} (j : Nat) (hx : ev n f x = some (.int .u64 a.toNat)) (hy : ev n f y = some (.int k i)) (hi : i = (j : Int)) (hj : j < 64) : Qt P B n S ⟨d, .binOp .shr t x y t2, ty, pos, af, gd⟩ f (.int .u64 (a.toNat / 2 ^ j : Nat)) := ⟨fun w _ => by
  subst hi
  have e : (a.toNat : Int).fdiv (2 ^ j) = ((a.toNat / 2 ^ j : Nat) : Int) := by
    rw [Int.fdiv_eq_ediv_of_nonneg _ (by exact_mod_cast Nat.zero_le _)]
    push_cast; rfl
  have h : (Op.shift .shr .u64 (a.toNat : Int) k (j : Int)).run P w = .ok (.int .u64 (a.toNat / 2 ^ j : Nat)) w := by
    have : min j 64 = j := by omega
    simp [Op.shift, IntKind.bits, this]
  simp [execOp, evu_eq hx, evu_eq hy, eqGuard, Go.binOp, h]⟩
theorem wr8_nat (m : Nat) : IntKind.u8.wrap (m : Int) = ((UInt8.ofNat m).toNat : Int) := by
  simp [IntKind.wrap, IntKind.bits, IntKind.signed]
theorem Qt.max {x y : Operand} {k : IntKind} {a b : Int} (hx : ev n f x = some (.int k a)) (hy : ev n f y = some (.int k b)) {ts : Array TypeId} : Qt P B n S ⟨d, .call ⟨.builtin .max, #[x, y], ts⟩, ty, pos, af, gd⟩ f (.int k (Max.max a b)) := ⟨fun w _ => by
  have h : (if a < b then b else a) = Max.max a b := by split <;> omega
  have h' : (if b > a then b else a) = Max.max a b := by split <;> omega
  simp [execOp, resolve, invoke, builtin, Builtin.max_, Builtin.max2, evu_eq hx, evu_eq hy, h, h']⟩
theorem Qt.min {x y : Operand} {k : IntKind} {a b : Int} (hx : ev n f x = some (.int k a)) (hy : ev n f y = some (.int k b)) {ts : Array TypeId} : Qt P B n S ⟨d, .call ⟨.builtin .min, #[x, y], ts⟩, ty, pos, af, gd⟩ f (.int k (Min.min a b)) := ⟨fun w _ => by
  have h : (if b < a then b else a) = Min.min a b := by split <;> omega
  simp [execOp, resolve, invoke, builtin, Builtin.min_, Builtin.min2, evu_eq hx, evu_eq hy, h]⟩
/-- A byte of a string. -/
theorem Qt.indexS {t : TypeId} {x y : Operand} {a : List UInt8} {k : IntKind} {i : Int} (j : Nat) (ht : isStr P t = true) (hx : ev n f x = some (.string (strOf a))) (hy : ev n f y = some (.int k i)) (hj : i = (j : Int)) (hl : j < a.length) :
    Qt P B n S ⟨d, .index t x y, ty, pos, af, gd⟩ f (.int .u8 (a[j]).toNat) := ⟨fun w _ => by
  subst hj
  have hu := isStr_spec ht
  have hg : (strOf a)[j]? = some a[j] := by
    rw [getElem?_pos _ _ (by rw [size_strOf]; exact hl)]
    rfl
  simp [execOp, Instr.index, evu_eq hx, evu_eq hy, asIntOf, run_underlying hu, hg]⟩

/-! append of so many noughts: 'append(s, make([]T, m)...)' -/
theorem zeroCells_one {z : Value} {zv : Value} (hz : z.cells = #[zv]) (m : Nat) : Builtin.zeroCells z.cells m = (List.replicate m zv).toArray := by
  rw [hz]
  unfold Builtin.zeroCells
  apply Array.ext'
  apply List.ext_getElem
  · simp
  · intro i h1 h2
    simp at h1
    simp [Nat.mod_one]
section
variable (w : World)
theorem run_append_grow_z (t tx ty e : TypeId) (i : TypeInfo) (z zv : Value) (ki k : IntKind) (ht : P.underlying t = some (.slice e)) (hk : P.underlying tx = some (.int ki)) (hi : P.info? e = some i) (hz : i.zero = some z) (hzc : z.cells = #[zv]) (hsz : i.size = 1) (base : Option Addr) (sLen sCap m : Nat) (olds : List Value)
    (hold : (Builtin.firstCells 1 sLen (.slice base sLen sCap)).run P w.drew = .ok olds.toArray w.drew) (hm : m * i.bytes ≤ 281474976710656)
    (hlc : sLen ≤ sCap) (hg : sCap < sLen + m) (h63 : ((sLen + m : Nat) : Int) ≤ 9223372036854775807) (hfit : Builtin.nextslicecap (sLen + m) sCap * i.bytes ≤ 281474976710656) :
    (Builtin.append_ #[t, tx] ty #[.slice base sLen sCap, .int k m]).run P w =
      .ok (.slice (some ⟨w.heap.size, 0, none⟩) (sLen + m) (grownCap w (sLen + m) sCap e))
        (w.drew.alloc (.cells ((olds ++ List.replicate m zv).toArray ++ Builtin.zeroCells z.cells (grownCap w (sLen + m) sCap e - (sLen + m))) e)) := by
  have hn : ¬ (sLen + m ≤ sCap) := by omega
  have h63' : ¬ (9223372036854775807 < ((sLen : Int) + (m : Int))) := by omega
  have hmx : ¬ (IntKind.i64.max < ((sLen : Int) + (m : Int))) := by simpa [IntKind.max, IntKind.bits, IntKind.signed] using h63'
  have h48' : ¬ (281474976710656 < Builtin.nextslicecap (sLen + m) sCap * i.bytes) := by omega
  have hw : IntKind.i64.wrap (m : Int) = m := wr64 (by omega) (by omega)
  have hb : ¬ (281474976710656 < (m : Int) * (i.bytes : Int)) := by
    have : ((m * i.bytes : Nat) : Int) ≤ ((281474976710656 : Nat) : Int) := Int.ofNat_le.2 hm
    rw [Int.natCast_mul] at this; omega
  have hn0 : ¬ ((m : Int) < 0) := by omega
  have hw0 : IntKind.i64.wrap 0 = 0 := by decide
  have h0 : ¬ m = 0 := by omega
  simp [Builtin.append_, run_underlying ht, run_underlying hk, sizeOf, typeInfo, zeroValue, hi, hz, hsz, hw, asInt, asIntOf, hb, hn0, h0, hn, hmx, h63', h48', Question.forced, hold, newRow, grownCap, zeroCells_one hzc]
  congr 2
  apply Array.ext'
  simp [List.append_assoc, ← List.replicate_append_replicate]
end
/-- 'copy(dst, src)' of one-cell elements, something at least. -/
theorem Ef.copy {dT sT e g o dLen dCap sLen sCap : Nat} {x y : Operand} {a : Option Addr} {C cs : List Value} {src : List Value} {ty2 : TypeId} (hk : sliceB P dT e 1 = true) (hx : ev n f x = some (.slice (some ⟨g, o, none⟩) dLen dCap)) (hy : ev n f y = some (.slice a sLen sCap))
    (hS : RdV B l (.slice a sLen sCap) src) (m : Nat) (hm : m = Nat.min sLen dLen) (hpos : 0 < m) (hcs : cs = src.take m) (hl : sLen = src.length) (h1 : ∀ v ∈ src, v.oneCell' = true)
    [k : StoreAt g l C (splice C o cs) r] (hfit : o + m ≤ C.length) (h : K (.int .i64 m) r) : Ef P B n ⟨d, .call ⟨.builtin .copy, #[x, y], #[dT, sT]⟩, ty2, pos, af, gd⟩ f l K := ⟨fun w next Q ho hk2 => by
  have hml : m ≤ src.length := by rw [hm, hl]; exact Nat.min_le_left _ _
  have hcl : cs.length = m := by rw [hcs, List.length_take]; omega
  obtain ⟨X, t', hg, ho'⟩ := ho.store (g := g) (C := C) (D := splice C o cs) (length_splice _ _ _ (by omega))
  obtain ⟨hu, hs⟩ := sliceB_spec hk
  obtain ⟨a2, c2, e2, h3 | ⟨b, o2, e3, h4⟩⟩ := hS
  · rw [h3] at hml; simp at hml; omega
  · injection e2 with e2 _ _
    subst e2; subst e3
    have hr := run_copy_row (P := P) w dT sT ty2 e g o dLen dCap ⟨b, o2, none⟩ sLen sCap _ t' cs hu hs hg (by rw [hcl, hm]) (fun j v hv => by
      rw [Addr.add_mid]
      refine h4 w ho j v ?_
      rw [hcs, List.getElem?_take] at hv
      split at hv
      · exact hv
      · cases hv) (by simp; omega) (fun v hv => h1 v (by rw [hcs] at hv; exact List.mem_of_mem_take hv))
    have hsp := splice_append C X o cs (by omega)
    unfold splice at hsp
    simp only [List.append_assoc] at hr hsp
    rw [hsp] at hr
    unfold Oper.wp execOp
    simp only [eval_act', resolve, invoke, builtin, Sem.run_bind, Sem.run_pure, Result.andThen_ok, List.map_toArray, List.map_cons, List.map_nil, evu_eq hx, evu_eq hy, hr]
    refine hk2 _ _ _ (by rw [hcl]; exact h) ?_
    unfold splice at ho'
    simp only [List.append_assoc] at ho'
    exact ho'⟩
end
end Go.Proofs.Ytefognjcognknaa

/- The backbone of periods: bits, forks. Conditions: sizes. -/
set_option linter.unusedSimpArgs false
set_option linter.unusedVariables false
namespace Go.Proofs.Ytefognjcognknaa
open Go.RowKit

/-! bits of numbers -/
def bvOp (op : BinOp) (a b : BitVec 64) : BitVec 64 := match op with
  | .and => a &&& b
  | .or => a ||| b
  | .xor => a ^^^ b
  | _ => a &&& ~~~b
def isBits (op : BinOp) : Bool := match op with
  | .and | .or | .xor | .andNot => true
  | _ => false
section
variable {P : Program} {B : Base} {n : Nat} {S l : List Assn} {f : Fr}
variable {d : Option Tmp} {ty : TypeId} {pos : String} {af : Array Edge} {gd : Option (Nat × Bool)}
theorem Qt.bits64 {op : BinOp} {t t2 : TypeId} {x y : Operand} {k : IntKind} {a b : Int} (r : Nat) (hop : isBits op = true) (hk : k = .i64 ∨ k = .u64) (hx : ev n f x = some (.int k a)) (hy : ev n f y = some (.int k b)) (h : (bvOp op (BitVec.ofInt 64 a) (BitVec.ofInt 64 b)).toNat = r) (hr : k.wrap r = r) : Qt P B n S ⟨d, .binOp op t x y t2, ty, pos, af, gd⟩ f (.int k (r : Int)) := ⟨fun w _ => by
  have h1 : (Op.intBits op k a b).run P w = .ok (.int k (r : Int)) w := by
    rcases hk with rfl | rfl
    · cases op <;> first | (simp [isBits] at hop; done) | skip
      · have h' : (BitVec.ofInt 64 a &&& BitVec.ofInt 64 b).toNat = r := h
        show Sem.run P (pure (Value.int .i64 (IntKind.i64.wrap (((BitVec.ofInt 64 a &&& BitVec.ofInt 64 b).toNat : Nat) : Int)))) w = _
        rw [h', hr]; rfl
      · have h' : (BitVec.ofInt 64 a ||| BitVec.ofInt 64 b).toNat = r := h
        show Sem.run P (pure (Value.int .i64 (IntKind.i64.wrap (((BitVec.ofInt 64 a ||| BitVec.ofInt 64 b).toNat : Nat) : Int)))) w = _
        rw [h', hr]; rfl
      · have h' : (BitVec.ofInt 64 a ^^^ BitVec.ofInt 64 b).toNat = r := h
        show Sem.run P (pure (Value.int .i64 (IntKind.i64.wrap (((BitVec.ofInt 64 a ^^^ BitVec.ofInt 64 b).toNat : Nat) : Int)))) w = _
        rw [h', hr]; rfl
      · have h' : (BitVec.ofInt 64 a &&& ~~~(BitVec.ofInt 64 b)).toNat = r := h
        show Sem.run P (pure (Value.int .i64 (IntKind.i64.wrap (((BitVec.ofInt 64 a &&& ~~~(BitVec.ofInt 64 b)).toNat : Nat) : Int)))) w = _
        rw [h', hr]; rfl
    · cases op <;> first | (simp [isBits] at hop; done) | skip
      · have h' : (BitVec.ofInt 64 a &&& BitVec.ofInt 64 b).toNat = r := h
        show Sem.run P (pure (Value.int .u64 (IntKind.u64.wrap (((BitVec.ofInt 64 a &&& BitVec.ofInt 64 b).toNat : Nat) : Int)))) w = _
        rw [h', hr]; rfl
      · have h' : (BitVec.ofInt 64 a ||| BitVec.ofInt 64 b).toNat = r := h
        show Sem.run P (pure (Value.int .u64 (IntKind.u64.wrap (((BitVec.ofInt 64 a ||| BitVec.ofInt 64 b).toNat : Nat) : Int)))) w = _
        rw [h', hr]; rfl
      · have h' : (BitVec.ofInt 64 a ^^^ BitVec.ofInt 64 b).toNat = r := h
        show Sem.run P (pure (Value.int .u64 (IntKind.u64.wrap (((BitVec.ofInt 64 a ^^^ BitVec.ofInt 64 b).toNat : Nat) : Int)))) w = _
        rw [h', hr]; rfl
      · have h' : (BitVec.ofInt 64 a &&& ~~~(BitVec.ofInt 64 b)).toNat = r := h
        show Sem.run P (pure (Value.int .u64 (IntKind.u64.wrap (((BitVec.ofInt 64 a &&& ~~~(BitVec.ofInt 64 b)).toNat : Nat) : Int)))) w = _
        rw [h', hr]; rfl
  cases op <;> first | (simp [isBits] at hop; done) | simp [execOp, evu_eq hx, evu_eq hy, eqGuard, Go.binOp, h1]⟩
theorem Qt.shrI {t t2 : TypeId} {x y : Operand} {k k2 : IntKind} {z i : Int} (a j : Nat) (hk : k.bits = 64) (hx : ev n f x = some (.int k z)) (hz : z = (a : Int)) (hy : ev n f y = some (.int k2 i)) (hi : i = (j : Int)) (hj : j < 64) : Qt P B n S ⟨d, .binOp .shr t x y t2, ty, pos, af, gd⟩ f (.int k ((a / 2 ^ j : Nat) : Int)) := ⟨fun w _ => by
  subst hi; subst hz
  have e : (a : Int).fdiv (2 ^ j) = ((a / 2 ^ j : Nat) : Int) := by
    rw [Int.fdiv_eq_ediv_of_nonneg _ (by exact_mod_cast Nat.zero_le _)]
    push_cast; rfl
  have h : (Op.shift .shr k (a : Int) k2 (j : Int)).run P w = .ok (.int k (a / 2 ^ j : Nat)) w := by
    have h64 : Min.min j 64 = j := by omega
    have hn : ¬ (j : Int) < 0 := by omega
    have e' : Op.shift .shr k (a : Int) k2 (j : Int) = pure (.int k ((a : Int).fdiv (2 ^ j))) := by simp only [Op.shift, hk, if_neg hn, Int.toNat_natCast, h64]
    rw [e', e]; rfl
  simp [execOp, evu_eq hx, evu_eq hy, eqGuard, Go.binOp, h]⟩
theorem Qt.shlI {t t2 : TypeId} {x y : Operand} {k k2 : IntKind} {z i : Int} (a j : Nat) (hk : k.bits = 64) (hx : ev n f x = some (.int k z)) (hz : z = (a : Int)) (hy : ev n f y = some (.int k2 i)) (hi : i = (j : Int)) (hj : j < 64) (hr : k.wrap ((a * 2 ^ j : Nat) : Int) = ((a * 2 ^ j : Nat) : Int)) : Qt P B n S ⟨d, .binOp .shl t x y t2, ty, pos, af, gd⟩ f (.int k ((a * 2 ^ j : Nat) : Int)) := ⟨fun w _ => by
  subst hi; subst hz
  have h : (Op.shift .shl k (a : Int) k2 (j : Int)).run P w = .ok (.int k (a * 2 ^ j : Nat)) w := by
    have h64 : Min.min j 64 = j := by omega
    have hn : ¬ (j : Int) < 0 := by omega
    have e' : Op.shift .shl k (a : Int) k2 (j : Int) = pure (.int k (k.wrap ((a : Int) * 2 ^ j))) := by simp only [Op.shift, hk, if_neg hn, Int.toNat_natCast, h64]
    have e2 : ((a * 2 ^ j : Nat) : Int) = (a : Int) * 2 ^ j := by push_cast; rfl
    rw [e', ← e2, hr]; rfl
  simp [execOp, evu_eq hx, evu_eq hy, eqGuard, Go.binOp, h]⟩
theorem Qt.negI {t : TypeId} {x : Operand} {k : IntKind} {a r : Int} (hx : ev n f x = some (.int k a)) (hr : k.wrap (0 - a) = r) : Qt P B n S ⟨d, .unOp .neg t x, ty, pos, af, gd⟩ f (.int k r) := ⟨fun w _ => by
  subst hr
  simp [execOp, evu_eq hx, Op.unary, Op.intArith]⟩
end

/-! lengths in bits -/
def lenN (u : Nat) : Nat := if u = 0 then 0 else u.log2 + 1
theorem lenN_iff {u k : Nat} (h : u ≠ 0) : lenN u = k + 1 ↔ 2 ^ k ≤ u ∧ u < 2 ^ (k + 1) := by
  unfold lenN
  rw [if_neg h, Nat.add_right_cancel_iff, Nat.log2_eq_iff h]
theorem lenN_ne {u : Nat} (h : u ≠ 0) : ∃ k, lenN u = k + 1 ∧ 2 ^ k ≤ u ∧ u < 2 ^ (k + 1) := ⟨u.log2, by unfold lenN; rw [if_neg h], (lenN_iff h).1 (by unfold lenN; rw [if_neg h])⟩
theorem lenN_div {u j : Nat} (h : 2 ^ j ≤ u) : lenN u = lenN (u / 2 ^ j) + j := by
  have hp := Nat.two_pow_pos j
  have h0 : u ≠ 0 := by omega
  have h1 : u / 2 ^ j ≠ 0 := by
    have := Nat.div_pos h hp
    omega
  obtain ⟨k, e1, e2, e3⟩ := lenN_ne h1
  rw [e1, show k + 1 + j = (k + j) + 1 by omega, lenN_iff h0]
  constructor
  · rw [Nat.pow_add]; exact (Nat.le_div_iff_mul_le hp).1 e2
  · rw [show k + j + 1 = (k + 1) + j by omega, Nat.pow_add]; exact (Nat.div_lt_iff_lt_mul hp).1 e3

/-! the node at which a period is filed -/
def forkN (f t : Nat) : Nat := if f = 0 then 0 else (t - 1) / 2 ^ (lenN ((f - 1) ^^^ (t - 1)) - 1) * 2 ^ (lenN ((f - 1) ^^^ (t - 1)) - 1)
theorem xor_zero {a b : Nat} (h : a ^^^ b = 0) : a = b := by
  have := congrArg (· ^^^ b) h
  simpa [Nat.xor_assoc] using this
theorem xor_one {x y : Nat} (h2 : x ^^^ y = 1) (h3 : x ≤ y) : x = 2 * (x / 2) ∧ y = 2 * (x / 2) + 1 := by
  have h4 : x / 2 = y / 2 := by
    have e : x / 2 ^^^ y / 2 = 0 := by
      have := Nat.shiftRight_xor_distrib (a := x) (b := y) (i := 1)
      simp only [Nat.shiftRight_eq_div_pow, Nat.pow_one] at this
      rw [← this, h2]
    exact xor_zero e
  have h5 : x ≠ y := fun e => by subst e; simp at h2
  omega
theorem xor_spec {a b : Nat} (h : a < b) : ∃ j q, lenN (a ^^^ b) = j + 1 ∧ a / 2 ^ j = 2 * q ∧ b / 2 ^ j = 2 * q + 1 := by
  have h0 : a ^^^ b ≠ 0 := fun e => by
    have := xor_zero e
    omega
  obtain ⟨j, e1, e2, e3⟩ := lenN_ne h0
  have hp := Nat.two_pow_pos j
  have h1 : (a ^^^ b) / 2 ^ j = 1 := by
    have a1 := (Nat.le_div_iff_mul_le hp).2 (by omega : 1 * 2 ^ j ≤ a ^^^ b)
    have a2 := (Nat.div_lt_iff_lt_mul hp).2 (by rw [Nat.pow_succ] at e3; omega : a ^^^ b < 2 * 2 ^ j)
    omega
  have h2 : a / 2 ^ j ^^^ b / 2 ^ j = 1 := by
    rw [← Nat.shiftRight_eq_div_pow, ← Nat.shiftRight_eq_div_pow, ← Nat.shiftRight_xor_distrib, Nat.shiftRight_eq_div_pow, h1]
  have h3 : a / 2 ^ j ≤ b / 2 ^ j := Nat.div_le_div_right (by omega)
  obtain ⟨e4, e5⟩ := xor_one h2 h3
  exact ⟨j, a / 2 ^ j / 2, e1, e4, e5⟩
theorem fork_spec {f t : Nat} (h0 : 0 < f) (h : f < t) : ∃ j q, lenN ((f - 1) ^^^ (t - 1)) = j + 1 ∧ (f - 1) / 2 ^ j = 2 * q ∧ (t - 1) / 2 ^ j = 2 * q + 1 ∧ forkN f t = (2 * q + 1) * 2 ^ j := by
  obtain ⟨j, q, e1, e2, e3⟩ := xor_spec (by omega : f - 1 < t - 1)
  refine ⟨j, q, e1, e2, e3, ?_⟩
  unfold forkN
  rw [if_neg (by omega), e1, Nat.add_sub_cancel, e3]
theorem fork_in {f t : Nat} (h : f < t) : f ≤ forkN f t ∧ forkN f t < t := by
  rcases Nat.eq_zero_or_pos f with rfl | h0
  · simp [forkN]; exact h
  · obtain ⟨j, q, _, e2, e3, e4⟩ := fork_spec h0 h
    have hp := Nat.two_pow_pos j
    rw [e4]
    have a1 := (Nat.div_lt_iff_lt_mul hp).1 (by omega : (f - 1) / 2 ^ j < 2 * q + 1)
    have a2 := (Nat.le_div_iff_mul_le hp).1 (by omega : 2 * q + 1 ≤ (t - 1) / 2 ^ j)
    omega
/-- The nodes above a node: for each power above its own the odd multiple whose place it is in; and 0. -/
def ancT (n k : Nat) : List Nat := if n % 2 ^ k = 0 then [] else [n / (2 * 2 ^ k) * (2 * 2 ^ k) + 2 ^ k]
def ancN (n : Nat) : List Nat := if n = 0 then [] else (List.range 40).flatMap (fun k => ancT n (k + 1)) ++ [0]
theorem mem_anc {n x : Nat} (h : n ≠ 0) : x ∈ ancN n ↔ x = 0 ∨ ∃ k, 1 ≤ k ∧ k ≤ 40 ∧ n % 2 ^ k ≠ 0 ∧ x = n / (2 * 2 ^ k) * (2 * 2 ^ k) + 2 ^ k := by
  unfold ancN
  rw [if_neg h, List.mem_append, List.mem_flatMap]
  constructor
  · rintro (⟨k, hk, hx⟩ | hx)
    · right
      unfold ancT at hx
      split at hx
      · simp at hx
      · exact ⟨k + 1, by omega, by have := List.mem_range.1 hk; omega, ‹_›, by simpa using hx⟩
    · left; simpa using hx
  · rintro (rfl | ⟨k, h1, h2, h3, rfl⟩)
    · right; simp
    · left
      refine ⟨k - 1, List.mem_range.2 (by omega), ?_⟩
      rw [show k - 1 + 1 = k by omega]
      unfold ancT
      rw [if_neg h3]; simp
theorem anc_len (n : Nat) : (ancN n).length ≤ 41 := by
  unfold ancN
  split
  · simp
  · rw [List.length_append]
    have : ∀ m, ((List.range m).flatMap (fun k => ancT n (k + 1))).length ≤ m := fun m => by
      induction m with
      | zero => simp
      | succ m ih =>
        rw [List.range_succ, List.flatMap_append, List.length_append]
        have : (List.flatMap (fun k => ancT n (k + 1)) [m]).length ≤ 1 := by simp [ancT]; split <;> simp
        omega
    have h40 := this 40
    simp only [List.length_cons, List.length_nil]
    omega
/-- What lies in a node's place has it above itself. -/
theorem anc_of {x j q : Nat} (hx : x / 2 ^ (j + 1) = q) (hne : x ≠ (2 * q + 1) * 2 ^ j) (h2 : x % 2 ^ j = 0 → x = (2 * q + 1) * 2 ^ j) (hj : j ≤ 40) (h0 : x ≠ 0) : (2 * q + 1) * 2 ^ j ∈ ancN x := by
  rw [mem_anc h0]
  right
  have e : 2 * 2 ^ j = 2 ^ (j + 1) := by rw [Nat.pow_succ]; omega
  refine ⟨j, ?_, hj, fun h => hne (h2 h), ?_⟩
  · rcases Nat.eq_zero_or_pos j with rfl | h
    · exact absurd (h2 (Nat.mod_one x)) hne
    · exact h
  · rw [e, hx, Nat.pow_succ]
    rw [Nat.add_mul, Nat.one_mul]
    congr 1
    rw [Nat.mul_comm (2 ^ j) 2, ← Nat.mul_assoc, Nat.mul_comm q 2]
/-- The instants of a period have the node at which it is filed above themselves. -/
theorem fork_anc {f t x : Nat} (h : f < t) (ht : t ≤ 1099511627776) (h1 : f ≤ x) (h2 : x < t) (hn : x ≠ forkN f t) : forkN f t ∈ ancN x := by
  rcases Nat.eq_zero_or_pos f with rfl | h0
  · have e : forkN 0 t = 0 := by simp [forkN]
    rw [e] at hn ⊢
    rw [mem_anc hn]; exact .inl rfl
  · obtain ⟨j, q, _, e2, e3, e4⟩ := fork_spec h0 h
    rw [e4] at hn ⊢
    have hp := Nat.two_pow_pos j
    have a1 : (f - 1) / 2 ^ j ≤ x / 2 ^ j := Nat.div_le_div_right (by omega)
    have a2 : x / 2 ^ j ≤ (t - 1) / 2 ^ j := Nat.div_le_div_right (by omega)
    have a3 : x / 2 ^ (j + 1) = q := by rw [Nat.pow_succ, ← Nat.div_div_eq_div_mul]; omega
    refine anc_of a3 hn (fun h3 => ?_) ?_ (by omega)
    · have a4 := Nat.div_add_mod x (2 ^ j)
      rw [h3, Nat.add_zero] at a4
      have a5 : ¬ x / 2 ^ j = 2 * q := fun e => by
        have a6 := (Nat.div_lt_iff_lt_mul hp).1 (by omega : (f - 1) / 2 ^ j < 2 * q + 1)
        rw [e] at a4
        have a7 := Nat.div_mul_le_self (f - 1) (2 ^ j)
        have a8 : (x - 1) / 2 ^ j < 2 * q := (Nat.div_lt_iff_lt_mul hp).2 (by rw [Nat.mul_comm]; omega)
        have a9 : (f - 1) / 2 ^ j ≤ (x - 1) / 2 ^ j := Nat.div_le_div_right (by omega)
        omega
      rw [show x / 2 ^ j = 2 * q + 1 by omega] at a4
      rw [← a4, Nat.mul_comm]
    · have a4 : 1 * 2 ^ j ≤ t - 1 := (Nat.le_div_iff_mul_le hp).1 (by omega)
      have a5 : 2 ^ j < 2 ^ 40 := by omega
      exact Nat.le_of_lt ((Nat.pow_lt_pow_iff_right (by omega)).1 a5)
/-- Periods that overlap, by the nodes of one. -/
theorem overlap_iff {a b f t : Nat} (h : f < t) (ht : t ≤ 1099511627776) (hab : a < b) (hb : b ≤ 1099511627776) : (f < b ∧ a < t) ↔ (forkN f t ∈ ancN a ∧ forkN f t < a ∧ a < t) ∨ (a ≤ forkN f t ∧ forkN f t < b) ∨ (forkN f t ∈ ancN (b - 1) ∧ b ≤ forkN f t ∧ f < b) := by
  obtain ⟨h1, h2⟩ := fork_in h
  constructor
  · rintro ⟨x, y⟩
    by_cases c1 : forkN f t < a
    · exact .inl ⟨fork_anc h ht (by omega) y (by omega), c1, y⟩
    · by_cases c2 : forkN f t < b
      · exact .inr (.inl ⟨by omega, c2⟩)
      · exact .inr (.inr ⟨fork_anc h ht (by omega) (by omega) (by omega), by omega, x⟩)
  · rintro (⟨_, x, y⟩ | ⟨x, y⟩ | ⟨_, x, y⟩) <;> omega
end Go.Proofs.Ytefognjcognknaa

/- Rising lists of numbers; the nodes beside a period. Conditions: sizes. -/
set_option linter.unusedSimpArgs false
set_option linter.unusedVariables false
namespace Go.Proofs.Ytefognjcognknaa
open Go.RowKit
/-! rising lists -/
abbrev RiseZ (l : List Int) : Prop := l.Pairwise (· < ·)
theorem rise_ext : ∀ {a b : List Int}, RiseZ a → RiseZ b → (∀ x, x ∈ a ↔ x ∈ b) → a = b
  | [], [], _, _, _ => rfl
  | [], y :: b, _, _, h => absurd ((h y).2 (List.mem_cons_self ..)) (by simp)
  | x :: a, [], _, _, h => absurd ((h x).1 (List.mem_cons_self ..)) (by simp)
  | x :: a, y :: b, ha, hb, h => by
    have h1 := List.pairwise_cons.1 ha
    have h2 := List.pairwise_cons.1 hb
    have e : x = y := by
      rcases List.mem_cons.1 ((h x).1 (List.mem_cons_self ..)) with e | e
      · exact e
      · rcases List.mem_cons.1 ((h y).2 (List.mem_cons_self ..)) with e' | e'
        · exact e'.symm
        · have := h2.1 x e; have := h1.1 y e'; omega
    subst e
    congr 1
    refine rise_ext h1.2 h2.2 fun z => ?_
    constructor
    · intro hz
      rcases List.mem_cons.1 ((h z).1 (List.mem_cons_of_mem _ hz)) with e | e
      · have := h1.1 z hz; omega
      · exact e
    · intro hz
      rcases List.mem_cons.1 ((h z).2 (List.mem_cons_of_mem _ hz)) with e | e
      · have := h2.1 z hz; omega
      · exact e
/-- A rising list with a number more. -/
def withZ : List Int → Int → List Int
  | [], n => [n]
  | x :: l, n => if n < x then n :: x :: l else x :: withZ l n
theorem mem_with {n y : Int} : ∀ {l : List Int}, y ∈ withZ l n ↔ y = n ∨ y ∈ l
  | [] => by simp [withZ]
  | x :: l => by
    unfold withZ
    split
    · simp
    · rw [List.mem_cons, mem_with, List.mem_cons]
      constructor
      · rintro (h | h | h) <;> simp [h]
      · rintro (h | h | h) <;> simp [h]
theorem len_with {n : Int} : ∀ {l : List Int}, (withZ l n).length = l.length + 1
  | [] => rfl
  | x :: l => by
    unfold withZ
    split
    · rfl
    · rw [List.length_cons, len_with, List.length_cons]
theorem with_rise {n : Int} : ∀ {l : List Int}, RiseZ l → n ∉ l → RiseZ (withZ l n)
  | [], _, _ => by simp [withZ]
  | x :: l, h, hn => by
    have h1 := List.pairwise_cons.1 h
    unfold withZ
    split
    · rename_i hx
      exact List.pairwise_cons.2 ⟨fun y hy => by rcases List.mem_cons.1 hy with rfl | hy; exact hx; exact Int.lt_trans hx (h1.1 y hy), h⟩
    · rename_i hx
      refine List.pairwise_cons.2 ⟨fun y hy => ?_, with_rise h1.2 fun h => hn (List.mem_cons_of_mem _ h)⟩
      rcases mem_with.1 hy with rfl | hy
      · have : y ≠ x := fun e => hn (by simp [e])
        omega
      · exact h1.1 y hy
def allZ (l : List Int) : List Int := l.foldl withZ []
theorem foldl_with {l : List Int} : ∀ {acc : List Int}, RiseZ acc → l.Nodup → (∀ x ∈ l, x ∉ acc) → RiseZ (l.foldl withZ acc) ∧ (∀ x, x ∈ l.foldl withZ acc ↔ x ∈ l ∨ x ∈ acc) ∧ (l.foldl withZ acc).length = l.length + acc.length := by
  induction l with
  | nil => intro acc h _ _; exact ⟨h, by simp, by simp⟩
  | cons x l ih =>
    intro acc h hn hd
    have hn1 := List.nodup_cons.1 hn
    obtain ⟨a1, a2, a3⟩ := ih (acc := withZ acc x) (with_rise h (hd x (List.mem_cons_self ..))) hn1.2 (fun y hy h2 => by
      rcases mem_with.1 h2 with rfl | h2
      · exact hn1.1 hy
      · exact hd y (List.mem_cons_of_mem _ hy) h2)
    refine ⟨a1, fun y => ?_, ?_⟩
    · rw [List.foldl_cons, a2, mem_with, List.mem_cons]
      constructor
      · rintro (h | h | h) <;> simp [h]
      · rintro ((h | h) | h) <;> simp [h]
    · rw [List.foldl_cons, a3, len_with, List.length_cons]; omega
theorem all_spec {l : List Int} (h : l.Nodup) : RiseZ (allZ l) ∧ (∀ x, x ∈ allZ l ↔ x ∈ l) ∧ (allZ l).length = l.length := by
  obtain ⟨a, b, c⟩ := foldl_with (l := l) (acc := []) List.Pairwise.nil h (by simp)
  exact ⟨a, fun x => by rw [allZ, b]; simp, by rw [allZ, c]; simp⟩
theorem all_snoc (l : List Int) (x : Int) : allZ (l ++ [x]) = withZ (allZ l) x := by simp [allZ]
/-! Compact -/
def compZ (l : List Int) : List Int := l.foldl (fun acc x => if acc.getLast? = some x then acc else acc ++ [x]) []
theorem comp_snoc (l : List Int) (x : Int) : compZ (l ++ [x]) = if (compZ l).getLast? = some x then compZ l else compZ l ++ [x] := by unfold compZ; rw [List.foldl_append]; rfl
theorem snoc_ind {P : List Int → Prop} (h0 : P []) (h1 : ∀ l x, P l → P (l ++ [x])) (l : List Int) : P l := by
  have : ∀ n (l : List Int), l.length = n → P l := fun n => by
    induction n with
    | zero => intro l hl; rw [List.eq_nil_of_length_eq_zero hl]; exact h0
    | succ n ih =>
      intro l hl
      have hne : l ≠ [] := fun e => by rw [e] at hl; simp at hl
      rw [← List.dropLast_concat_getLast hne]
      exact h1 _ _ (ih _ (by rw [List.length_dropLast]; omega))
  exact this _ l rfl
theorem comp_last (l : List Int) : (compZ l).getLast? = l.getLast? := by
  refine snoc_ind (P := fun l => (compZ l).getLast? = l.getLast?) rfl (fun l x ih => ?_) l
  rw [comp_snoc]
  split
  · rename_i h; rw [h]; simp
  · simp
theorem comp_snoc' (l : List Int) (x : Int) : compZ (l ++ [x]) = if l.getLast? = some x then compZ l else compZ l ++ [x] := by rw [comp_snoc, comp_last]
theorem mem_comp (l : List Int) (y : Int) : y ∈ compZ l ↔ y ∈ l := by
  refine snoc_ind (P := fun l => y ∈ compZ l ↔ y ∈ l) (by simp [compZ]) (fun l x ih => ?_) l
  rw [comp_snoc]
  split
  · rename_i h
    rw [ih, List.mem_append]
    constructor
    · exact .inl
    · rintro (h2 | h2)
      · exact h2
      · have : y = x := by simpa using h2
        subst this
        rw [comp_last] at h
        exact List.mem_of_getLast? h
  · rw [List.mem_append, List.mem_append, ih]
theorem comp_rise (l : List Int) (h : l.Pairwise (· ≤ ·)) : RiseZ (compZ l) := by
  revert h
  refine snoc_ind (P := fun l => l.Pairwise (· ≤ ·) → RiseZ (compZ l)) (fun _ => List.Pairwise.nil) (fun l x ih h => ?_) l
  have h1 := List.pairwise_append.1 h
  rw [comp_snoc']
  split
  · exact ih h1.1
  · rename_i hl
    refine List.pairwise_append.2 ⟨ih h1.1, by simp, fun a ha b hb => ?_⟩
    obtain rfl : b = x := by simpa using hb
    have ha' := (mem_comp l a).1 ha
    have h2 := h1.2.2 a ha' b (by simp)
    rcases Int.lt_or_eq_of_le h2 with h3 | h3
    · exact h3
    · subst h3
      exfalso
      rcases hq : l.getLast? with _ | z
      · rw [List.getLast?_eq_none_iff] at hq; subst hq; simp at ha'
      · rw [hq] at hl
        have hz := List.mem_of_getLast? hq
        have hz2 := h1.2.2 z hz a (by simp)
        obtain ⟨l1, rfl⟩ := List.getLast?_eq_some_iff.1 hq
        have h4 := List.pairwise_append.1 h1.1
        rcases List.mem_append.1 ha' with h5 | h5
        · have := h4.2.2 a h5 z (by simp)
          exact hl (by rw [show z = a by omega])
        · have : a = z := by simpa using h5
          exact hl (by rw [this])
/-! the nodes beside a period -/
theorem anc_left {x y m : Nat} (h : m ∈ ancN y) (h1 : m < x) (h2 : x ≤ y) : m ∈ ancN x := by
  rcases (mem_anc (by omega)).1 h with rfl | ⟨k, k1, k2, k3, hm⟩
  · exact (mem_anc (by omega)).2 (.inl rfl)
  · have hp := Nat.two_pow_pos k
    have e : 2 * 2 ^ k = 2 ^ (k + 1) := by rw [Nat.pow_succ]; omega
    obtain ⟨c, hc⟩ : ∃ c, y / (2 * 2 ^ k) = c := ⟨_, rfl⟩
    rw [hc] at hm
    have hy : y < (c + 1) * (2 * 2 ^ k) := (Nat.div_lt_iff_lt_mul (by omega)).1 (by omega)
    have hm2 : m = (2 * c + 1) * 2 ^ k := by rw [hm, Nat.add_mul, Nat.one_mul, ← Nat.mul_assoc, Nat.mul_comm c 2]
    have e3 : (c + 1) * (2 * 2 ^ k) = m + 2 ^ k := by rw [hm, Nat.add_mul, Nat.one_mul]; omega
    have e4 : (2 * c + 2) * 2 ^ k = m + 2 ^ k := by rw [hm2, show 2 * c + 2 = (2 * c + 1) + 1 by omega, Nat.add_mul (2 * c + 1), Nat.one_mul]
    have hx2 : x / 2 ^ k = 2 * c + 1 := by
      have a1 := (Nat.le_div_iff_mul_le hp).2 (by omega : (2 * c + 1) * 2 ^ k ≤ x)
      have a2 := (Nat.div_lt_iff_lt_mul hp).2 (by omega : x < (2 * c + 2) * 2 ^ k)
      omega
    rw [hm2]
    refine anc_of (by rw [Nat.pow_succ, ← Nat.div_div_eq_div_mul]; omega) (by omega) (fun h => ?_) k2 (by omega)
    have a4 := Nat.div_add_mod x (2 ^ k)
    rw [h, hx2, Nat.add_zero] at a4
    rw [← a4, Nat.mul_comm]
theorem anc_right {x y m : Nat} (h : m ∈ ancN x) (h1 : y < m) (h2 : x ≤ y) : m ∈ ancN y := by
  have hx0 : x ≠ 0 := fun e => by subst e; simp [ancN] at h
  rcases (mem_anc hx0).1 h with rfl | ⟨k, k1, k2, k3, hm⟩
  · omega
  · have hp := Nat.two_pow_pos k
    have e : 2 * 2 ^ k = 2 ^ (k + 1) := by rw [Nat.pow_succ]; omega
    obtain ⟨c, hc⟩ : ∃ c, x / (2 * 2 ^ k) = c := ⟨_, rfl⟩
    rw [hc] at hm
    have hx : c * (2 * 2 ^ k) ≤ x := (Nat.le_div_iff_mul_le (by omega)).1 (by omega)
    have hm2 : m = (2 * c + 1) * 2 ^ k := by rw [hm, Nat.add_mul, Nat.one_mul, ← Nat.mul_assoc, Nat.mul_comm c 2]
    have e3 : (2 * c) * 2 ^ k = c * (2 * 2 ^ k) := by rw [← Nat.mul_assoc, Nat.mul_comm c 2]
    have hy2 : y / 2 ^ k = 2 * c := by
      have a1 := (Nat.le_div_iff_mul_le hp).2 (by omega : (2 * c) * 2 ^ k ≤ y)
      have a2 := (Nat.div_lt_iff_lt_mul hp).2 (by omega : y < (2 * c + 1) * 2 ^ k)
      omega
    rw [hm2]
    refine anc_of (by rw [Nat.pow_succ, ← Nat.div_div_eq_div_mul]; omega) (by omega) (fun h => ?_) k2 (by omega)
    exfalso
    have a4 := Nat.div_add_mod y (2 ^ k)
    rw [h, hy2, Nat.add_zero, Nat.mul_comm] at a4
    obtain rfl : x = y := by omega
    exact k3 h
theorem anc_nodup (n : Nat) : (ancN n).Nodup := by
  unfold ancN
  split
  · exact List.Pairwise.nil
  · rename_i h0
    have hpos : ∀ m, ∀ x ∈ (List.range m).flatMap (fun k => ancT n (k + 1)), ∃ k c, k < m ∧ x = (2 * c + 1) * 2 ^ (k + 1) := fun m x hx => by
      obtain ⟨k, hk, hx⟩ := List.mem_flatMap.1 hx
      unfold ancT at hx
      split at hx
      · simp at hx
      · obtain rfl := List.mem_singleton.1 hx
        refine ⟨k, n / (2 * 2 ^ (k + 1)), List.mem_range.1 hk, ?_⟩
        rw [Nat.add_mul, Nat.one_mul, ← Nat.mul_assoc, Nat.mul_comm _ 2]
    refine List.pairwise_append.2 ⟨?_, by simp, fun a ha b hb => ?_⟩
    · have : ∀ m, ((List.range m).flatMap (fun k => ancT n (k + 1))).Nodup := fun m => by
        induction m with
        | zero => exact List.Pairwise.nil
        | succ m ih =>
          rw [List.range_succ, List.flatMap_append]
          refine List.pairwise_append.2 ⟨ih, ?_, fun a ha b hb => ?_⟩
          · simp [ancT]; split <;> simp
          · obtain ⟨k, c, hk, rfl⟩ := hpos m a ha
            have hb' : b ∈ ancT n (m + 1) := by simpa using hb
            unfold ancT at hb'
            split at hb'
            · simp at hb'
            · obtain rfl := List.mem_singleton.1 hb'
              intro e
              have e2 : n / (2 * 2 ^ (m + 1)) * (2 * 2 ^ (m + 1)) + 2 ^ (m + 1) = (2 * (n / (2 * 2 ^ (m + 1))) + 1) * 2 ^ (m + 1) := by rw [Nat.add_mul, Nat.one_mul, ← Nat.mul_assoc, Nat.mul_comm _ 2]
              rw [e2] at e
              obtain ⟨d, rfl⟩ : ∃ d, m = k + 1 + d := ⟨m - (k + 1), by omega⟩
              generalize n / (2 * 2 ^ (k + 1 + d + 1)) = w at e
              have e4 : 2 ^ (k + 1 + d + 1) = 2 ^ (d + 1) * 2 ^ (k + 1) := by rw [← Nat.pow_add]; congr 1; omega
              rw [e4, ← Nat.mul_assoc] at e
              have e3 := Nat.eq_of_mul_eq_mul_right (Nat.two_pow_pos (k + 1)) e
              rw [Nat.pow_succ, ← Nat.mul_assoc] at e3
              omega
      exact this 40
    · obtain ⟨k, c, hk, rfl⟩ := hpos 40 a ha
      obtain rfl : b = 0 := by simpa using hb
      have := Nat.two_pow_pos (k + 1)
      intro e
      rcases Nat.mul_eq_zero.1 e with e | e <;> omega
abbrev zL (l : List Nat) : List Int := l.map fun n : Nat => (n : Int)
theorem mem_zL {l : List Nat} {x : Int} : x ∈ zL l ↔ ∃ n ∈ l, (n : Int) = x := List.mem_map
theorem nodup_zL {l : List Nat} (h : l.Nodup) : (zL l).Nodup := List.pairwise_map.2 (h.imp fun h e => h (by exact_mod_cast e))
/-- The document's nodes to the left and to the right of a period. -/
def leftZ (a : Nat) : List Int := allZ (zL ((ancN a).filter fun n => decide (n < a)))
def rightZ (b : Nat) : List Int := allZ (zL ((ancN (b - 1)).filter fun n => decide (b ≤ n)))
theorem left_spec (a : Nat) : RiseZ (leftZ a) ∧ (∀ x, x ∈ leftZ a ↔ ∃ n : Nat, x = n ∧ n ∈ ancN a ∧ n < a) ∧ (leftZ a).length ≤ 41 := by
  obtain ⟨h1, h2, h3⟩ := all_spec (nodup_zL ((anc_nodup a).filter fun n => decide (n < a)))
  refine ⟨h1, fun x => ?_, ?_⟩
  · rw [leftZ, h2, mem_zL]
    constructor
    · rintro ⟨n, hn, rfl⟩; exact ⟨n, rfl, (List.mem_filter.1 hn).1, by simpa using (List.mem_filter.1 hn).2⟩
    · rintro ⟨n, rfl, hn, hl⟩; exact ⟨n, List.mem_filter.2 ⟨hn, by simpa using hl⟩, rfl⟩
  · have := anc_len a
    have h4 : ((ancN a).filter fun n => decide (n < a)).length ≤ (ancN a).length := List.length_filter_le _ _
    rw [leftZ, h3, List.length_map]; omega
theorem right_spec (b : Nat) : RiseZ (rightZ b) ∧ (∀ x, x ∈ rightZ b ↔ ∃ n : Nat, x = n ∧ n ∈ ancN (b - 1) ∧ b ≤ n) ∧ (rightZ b).length ≤ 41 := by
  obtain ⟨h1, h2, h3⟩ := all_spec (nodup_zL ((anc_nodup (b - 1)).filter fun n => decide (b ≤ n)))
  refine ⟨h1, fun x => ?_, ?_⟩
  · rw [rightZ, h2, mem_zL]
    constructor
    · rintro ⟨n, hn, rfl⟩; exact ⟨n, rfl, (List.mem_filter.1 hn).1, by simpa using (List.mem_filter.1 hn).2⟩
    · rintro ⟨n, rfl, hn, hl⟩; exact ⟨n, List.mem_filter.2 ⟨hn, by simpa using hl⟩, rfl⟩
  · have := anc_len (b - 1)
    have h4 : ((ancN (b - 1)).filter fun n => decide (b ≤ n)).length ≤ (ancN (b - 1)).length := List.length_filter_le _ _
    rw [rightZ, h3, List.length_map]; omega
/-- The ends' nodes that the program collects, one end after the other. -/
def endsN (a b : Nat) : List Nat := (ancN a ++ [0]) ++ (ancN (b - 1) ++ [0])
abbrev rawL (l : List Nat) (a : Nat) : List Int := zL (l.filter fun n => decide (n < a))
abbrev rawR (l : List Nat) (b : Nat) : List Int := zL (l.filter fun n => decide (b ≤ n))
abbrev srtZ (zs : List Int) : List Int := zs.mergeSort fun x y => decide (x ≤ y)
theorem srt_le (l : List Int) : (srtZ l).Pairwise (· ≤ ·) := by
  have := List.pairwise_mergeSort (le := fun x y : Int => decide (x ≤ y)) (fun a b c h1 h2 => by simp at *; omega) (fun a b => by simp; omega) l
  exact this.imp (fun h => by simpa using h)
theorem nodes_left {a b : Nat} (h : a < b) : compZ (srtZ (rawL (endsN a b) a)) = leftZ a := by
  refine rise_ext (comp_rise _ (srt_le _)) (left_spec a).1 fun x => ?_
  rw [mem_comp, (List.mergeSort_perm _ _).mem_iff, mem_zL, (left_spec a).2.1]
  constructor
  · rintro ⟨n, hn, rfl⟩
    obtain ⟨h1, h2⟩ := List.mem_filter.1 hn
    have h2' : n < a := by simpa using h2
    have h0 : n = 0 → n ∈ ancN a := fun e => (mem_anc (by omega)).2 (.inl e)
    refine ⟨n, rfl, ?_, h2'⟩
    unfold endsN at h1
    rcases List.mem_append.1 h1 with h1 | h1
    · rcases List.mem_append.1 h1 with h1 | h1
      · exact h1
      · exact h0 (by simpa using h1)
    · rcases List.mem_append.1 h1 with h1 | h1
      · exact anc_left h1 h2' (by omega)
      · exact h0 (by simpa using h1)
  · rintro ⟨n, rfl, hn, hl⟩
    exact ⟨n, List.mem_filter.2 ⟨by unfold endsN; simp [hn], by simpa using hl⟩, rfl⟩
theorem nodes_right {a b : Nat} (h : a < b) : compZ (srtZ (rawR (endsN a b) b)) = rightZ b := by
  refine rise_ext (comp_rise _ (srt_le _)) (right_spec b).1 fun x => ?_
  rw [mem_comp, (List.mergeSort_perm _ _).mem_iff, mem_zL, (right_spec b).2.1]
  constructor
  · rintro ⟨n, hn, rfl⟩
    obtain ⟨h1, h2⟩ := List.mem_filter.1 hn
    have h2' : b ≤ n := by simpa using h2
    refine ⟨n, rfl, ?_, h2'⟩
    unfold endsN at h1
    rcases List.mem_append.1 h1 with h1 | h1
    · rcases List.mem_append.1 h1 with h1 | h1
      · exact anc_right h1 (by omega) (by omega)
      · have : n = 0 := by simpa using h1
        omega
    · rcases List.mem_append.1 h1 with h1 | h1
      · exact h1
      · have : n = 0 := by simpa using h1
        omega
  · rintro ⟨n, rfl, hn, hl⟩
    exact ⟨n, List.mem_filter.2 ⟨by unfold endsN; simp [hn], by simpa using hl⟩, rfl⟩
end Go.Proofs.Ytefognjcognknaa
