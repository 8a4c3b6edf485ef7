/- The texts Law Law2 StRd SlG MvA MvB, one behind the other: what the law leans on. Conditions: as each theorem says. -/
import Derived.Test.YtgfbjabjkjbnlaaZMvccFirst2
import Derived.Deep.Slices
/- The frame of a law's proof: what the walk owes, and how the row follows; arguments opened as lists. Conditions: none. -/
set_option linter.unusedSimpArgs false
set_option linter.unusedVariables false
namespace Go.Proofs.Ytgfbjabjkjbnlaa
open Go.ChangeShapes Go.WideShapes Go.ChangeAt Go.RowKit

theorem Try.own : ownKnob Try.prog.godebug = none := by kernel_rfl
theorem Try.laidOut : laidOutB Try.prog = true := by kernel_rfl

section
variable {H : Type} {enc : TypeId × Value → H} {P : Program}

theorem trodAll_stays (hl : laidOutB P = true) {W W' : World} (hb : Below W.heap.size W W') : ∀ (ts : List TypeId) (vs : List Value) (ds : List (DataW H)) (ps : List MemPlace), (∀ t ∈ ts, P.readableRec t = true ∧ t < P.types.size) →
    (∀ x ∈ ps, x.block < W.heap.size) → DataW.TrodAll enc P W 0 (fun _ => true) true ts vs ds ps → DataW.TrodAll enc P W' 0 (fun b => decide (b < W.heap.size)) true ts vs ds ps
  | [], [], [], ps, _, _, h => h
  | t :: ts, v :: vs, d :: ds, ps, hr, hlt, h => by
    obtain ⟨p, q, h1, h2, rfl⟩ := h
    refine ⟨p, q, Below.trod hl (hr t (by simp)).1 (hr t (by simp)).2 h1 hb (fun x hx => hlt x (by simp [hx])), trodAll_stays hl hb ts vs ds q (fun t ht => hr t (by simp [ht])) (fun x hx => hlt x (by simp [hx])) h2, rfl⟩
  | [], [], _ :: _, _, _, _, h => h
  | [], _ :: _, _, _, _, _, h => h
  | _ :: _, [], _, _, _, _, h => h
  | _ :: _, _ :: _, [], _, _, _, h => h

/-- What a law's row asks behind the call, out of what the walk gives. -/
theorem post_law {f : Func} {s : ChangeSpec} {W W' : World} {args : Array Value} {ds gs : List (DataW H)} {before : List MemPlace} (hl : laidOutB P = true)
    (hW : DataW.Whole enc P f.params.toList s.vars false W args.toList ds gs before) (hvars : s.vars = []) (hres : s.fn H (ds ++ gs) = { results := [.lit (.bool true)], args := ds })
    (tb : TypeId) (htb : P.underlying tb = some .bool) (hrt : f.resultTypes = #[tb]) (hr : ∀ t ∈ f.params.toList, P.readableRec t = true ∧ t < P.types.size) (hb : Below W.heap.size W W') :
    s.post enc P f false true false false W args (.bool true) W' := by
  have hW' := hW
  obtain ⟨p, q, hA, hV, rfl, hfz, hnd⟩ := hW
  rw [hvars] at hV
  obtain ⟨rfl, rfl⟩ := trodVars_none hV
  have hlt : ∀ x ∈ p, x.block < W.heap.size := fun x hx => by simpa using hW'.lt x (by simp [hx])
  refine ⟨ds, [], p ++ [], [], p, [], hW', ?_, ?_, ?_, hb.frame _, fun h => by cases h⟩
  · rw [hres, hrt]
    exact trodAll_cons_mk (shut_bool htb _) trodAll_mk0
  · rw [hres]
    exact trodAll_stays hl hb _ _ _ _ hr hlt hA
  · rw [hres, hvars]
    rfl
end

/-! ### Arguments as lists -/
section
variable {H : Type} {enc : TypeId × Value → H} {P : Program} {W : World}

abbrev Tr (enc : TypeId × Value → H) (P : Program) (W : World) (fuel : Nat) (t : TypeId) (cs : List Value) : Option (DataW H × List MemPlace) := DataW.trod enc P W 0 (fun _ => true) true fuel t cs

/-- A slice in memory whose elements, of so many cells, stand to the list's in the relation R. -/
def SliceAt (W : World) (sz : Nat) {α : Type} (R : List Value → α → Prop) (v : Value) (l : List α) : Prop :=
  (v = .slice none 0 0 ∧ l = []) ∨ ∃ a cap, v = .slice (some a) l.length cap ∧ l.length ≤ cap ∧ cap ≤ maxLen ∧
    ∀ i (hi : i < l.length), ∃ cells b o, a = ⟨b, o, none⟩ ∧ b < W.heap.size ∧ cells.length = sz ∧ W.rangeAt b (o + i * sz) cells ∧ R cells l[i]

theorem choose_list {α : Type} {n : Nat} {Q : Nat → α → Prop} (h : ∀ i, i < n → ∃ a, Q i a) : ∃ l : List α, l.length = n ∧ ∀ i (hi : i < l.length), Q i l[i] := by
  induction n with
  | zero => exact ⟨[], rfl, fun i hi => by simp at hi⟩
  | succ n ih =>
    obtain ⟨l, hl, h2⟩ := ih (fun i hi => h i (by omega))
    obtain ⟨a, ha⟩ := h n (by omega)
    refine ⟨l ++ [a], by simp [hl], fun i hi => ?_⟩
    by_cases hin : i < l.length
    · rw [List.getElem_append_left hin]; exact h2 i hin
    · have : i = n := by simp at hi; omega
      subst this
      simp only [← hl, List.getElem_concat_length]; rw [hl]; exact ha

theorem map_sum_le {α β : Type} (f : α → Nat) (g : β → Nat) : ∀ (l : List α) (D : List β), l.length = D.length → (∀ i (h1 : i < l.length) (h2 : i < D.length), f l[i] ≤ g D[i]) → (l.map f).sum ≤ (D.map g).sum
  | [], [], _, _ => by simp
  | x :: l, y :: D, hl, h => by
    have h0 := h 0 (by simp) (by simp)
    have := map_sum_le f g l D (by simpa using hl) (fun i h1 h2 => by have h3 := h (i + 1) (by simpa using h1) (by simpa using h2); simp only [List.getElem_cons_succ] at h3; exact h3)
    simp only [List.map_cons, List.sum_cons]
    simp only [List.getElem_cons_zero] at h0
    omega
  | [], _ :: _, hl, _ => by simp at hl
  | _ :: _, [], hl, _ => by simp at hl

theorem bulkAll_sum (l : List (DataW H)) : Rows.uptoBulkAll l = (l.map Rows.uptoBulk).sum := by
  induction l with
  | nil => rfl
  | cons d l ih => simp [Rows.uptoBulkAll, ih]

/-- A slice argument: each element read by what reads its type. -/
theorem open_slice_R {t e : TypeId} {sz fuel : Nat} {cs : List Value} {x : DataW H × List MemPlace} {α : Type} {R : List Value → α → Prop} {B : α → Nat} (ht : P.underlying t = some (.slice e)) (hc : P.cellsOf e = sz) (hsz : 0 < sz)
    (hR : ∀ n cs y, Tr enc P W n e cs = some y → ∃ a, R cs a ∧ B a ≤ Rows.uptoBulk y.1) (h : Tr enc P W fuel t cs = some x) :
    ∃ v l, cs = [v] ∧ SliceAt W sz R v l ∧ (l.map B).sum + 1 ≤ Rows.uptoBulk x.1 ∧ l.length + 1 ≤ Rows.uptoBulk x.1 := by
  subst hc
  rcases Deep.open_slice ht h with ⟨rfl, rfl⟩ | ⟨a, len, cap, m, n, D, Pl, rfl, hb, hl, hm, hmm, rfl, hx⟩
  · exact ⟨_, [], rfl, .inl ⟨rfl, rfl⟩, by simp [Rows.uptoBulk], by simp [Rows.uptoBulk]⟩
  · simp only [if_true] at hmm
    subst hmm
    obtain ⟨l, hll, hli⟩ := choose_list (n := len) (Q := fun i (y : α) => ∃ cells, W.cells? 0 (a.add (i * P.cellsOf e)) (P.cellsOf e) = some cells ∧ R cells y ∧ B y ≤ Rows.uptoBulk (D i)) (fun i hi => by
      obtain ⟨cs', h1, h2⟩ := hx i (by omega)
      obtain ⟨y, hy, hB⟩ := hR n cs' _ h2
      exact ⟨y, cs', h1, hy, hB⟩)
    refine ⟨_, l, rfl, .inr ⟨a, m, by rw [hll], by omega, hm, fun i hi => ?_⟩, ?_, ?_⟩
    · obtain ⟨cells, h1, h2, _⟩ := hli i hi
      obtain ⟨_, h4, h5⟩ := World.cells?_some h1
      have hsp : a.spot = none := by
        have h0 := hx 0 (by omega)
        obtain ⟨cs', g1, _⟩ := h0
        obtain ⟨_, g4, g5⟩ := World.cells?_some g1
        have := g5 0 hsz
        simp only [Nat.zero_mul] at this
        have hadd : (a.add 0).add 0 = a := by simp [Addr.add]
        rw [hadd, List.getElem?_eq_getElem (by omega)] at this
        unfold World.cell? at this
        cases hh : W.heap[a.block]? with
        | none => simp [hh] at this
        | some o =>
          cases o <;> simp [hh] at this
          have hq := this.1
          cases hs : a.spot with
          | none => rfl
          | some s => simp [hs] at hq
      obtain ⟨b, o, sp⟩ := a
      simp only at hsp
      subst hsp
      have hcell : W.rangeAt b (o + i * P.cellsOf e) cells := fun j v hj => by
        have hjl : j < P.cellsOf e := by have := (List.getElem?_eq_some_iff.1 hj).1; omega
        have := h5 j hjl
        rw [Addr.add_mid, Addr.add_mid] at this
        rw [this]; exact hj
      have hlt : b < W.heap.size := World.block_lt_of_cell? W _ (hcell 0 _ (List.getElem?_eq_getElem (by omega)))
      exact ⟨cells, b, o, rfl, hlt, h4, hcell, h2⟩
    · have := map_sum_le B Rows.uptoBulk l ((List.range len).map D) (by simp [hll]) (fun i h1 h2 => by
        obtain ⟨_, _, _, h3⟩ := hli i h1
        simpa using h3)
      simp only [Rows.uptoBulk, bulkAll_sum]
      omega
    · simp only [Rows.uptoBulk]
      have h1 : l.length ≤ Rows.uptoBulkAll ((List.range len).map D) := by
        rw [bulkAll_sum, hll]
        have : ∀ L : List Nat, L.length ≤ ((L.map D).map Rows.uptoBulk).sum := by
          intro L
          induction L with
          | nil => simp
          | cons a L ih =>
            simp only [List.map_cons, List.sum_cons, List.length_cons]
            have : 1 ≤ Rows.uptoBulk (D a) := by
              cases D a with
              | lit l => cases l <;> simp [Rows.uptoBulk]
              | _ => simp [Rows.uptoBulk]
            omega
        simpa using this (List.range len)
      omega

/-- A struct's field, by its type's number and its place. -/
theorem field_of {fs : Array Field} {n : Nat} {cs : List Value} {xs : List (DataW H × List MemPlace)} (hf : ∀ (i : Nat) (f : Field), fs[i]? = some f → Tr enc P W n f.type ((cs.drop f.offset).take (P.cellsOf f.type)) = xs[i]?)
    (i t off c : Nat) (h : (fs[i]?).map (fun f => (f.type, f.offset)) = some (t, off)) (hc : P.cellsOf t = c) : Tr enc P W n t ((cs.drop off).take c) = xs[i]? := by
  cases hq : fs[i]? with
  | none => simp [hq] at h
  | some f =>
    simp only [hq, Option.map_some, Option.some.injEq, Prod.mk.injEq] at h
    have := hf i f hq
    rw [h.1, h.2, hc] at this
    exact this

/-- A slice of one-cell elements, in Lib's word. -/
theorem SliceAt.reads {α : Type} {R : List Value → α → Prop} {v : Value} {l : List α} (f : α → Value) (hf : ∀ cs a, R cs a → cs = [f a]) (h : SliceAt W 1 R v l) : ∃ fp, Reads W v (l.map f) fp ∧ ∀ x ∈ fp, x < W.heap.size := by
  rcases h with ⟨rfl, rfl⟩ | ⟨a, cap, rfl, hl, hm, hi⟩
  · exact ⟨[], Reads.nil W, by simp⟩
  · by_cases h0 : l = []
    · subst h0; exact ⟨[], ⟨_, cap, rfl, .inl rfl⟩, by simp⟩
    · have hp : 0 < l.length := List.length_pos_iff.2 h0
      obtain ⟨cells, b, o, ha, hb, hlen, hr, hR⟩ := hi 0 hp
      subst ha
      refine ⟨[b], ⟨_, cap, by simp, .inr ⟨b, o, rfl, fun j v hv => ?_, by simp⟩⟩, by simpa using hb⟩
      have hj : j < l.length := by have := (List.getElem?_eq_some_iff.1 hv).1; simpa using this
      obtain ⟨cells', b', o', ha', _, hlen', hr', hR'⟩ := hi j hj
      injection ha' with e1 e2
      subst e1; subst e2
      have hc := hf _ _ hR'
      subst hc
      have := hr' 0 (f l[j]) rfl
      simp only [Nat.mul_one, Nat.add_zero] at this
      rw [this]
      simp only [List.getElem?_map, List.getElem?_eq_getElem hj, Option.map_some] at hv
      exact hv
end

theorem Try.upto_bound {H : Type} {l : List (DataW H)} (hk : Rows.uptoSmall H l = true) : Rows.uptoBulkAll l ≤ 1048576 := of_decide_eq_true hk
end Go.Proofs.Ytgfbjabjkjbnlaa

/- From contracts over assertions to what a law's row owes; arguments that are only read. Conditions: none. -/
set_option linter.unusedSimpArgs false
set_option linter.unusedVariables false
namespace Go.Proofs.Ytgfbjabjkjbnlaa
open Go.RowKit

def baseOf (W : World) : Base := ⟨W.os, W.tape, W.output, World.piece W⟩
theorem own_base (W : World) : Own (baseOf W) W [] := ⟨rfl, rfl, rfl, Piece.le_refl _, fun _ => none, ⟨fun _ => .inl rfl⟩, ⟨fun _ _ e => by cases e⟩, trivial⟩
theorem Own.keeps {W W' : World} {l : List Assn} (h : Own (baseOf W) W' l) : Kept [] W W' := by
  have hb : ∀ k o, W.heap[k]? = some o → W'.heap[k]? = some o := fun k o e => h.ro.p k o e
  refine ⟨h.os, h.tape, h.output, ?_, fun k hk _ => ?_⟩
  · rcases Nat.eq_zero_or_pos W.heap.size with h0 | h0
    · omega
    · have := lt_of_block (hb (W.heap.size - 1) _ (Array.getElem?_eq_getElem (by omega)))
      omega
  · rw [hb k _ (Array.getElem?_eq_getElem hk), Array.getElem?_eq_getElem hk]
theorem Fn.law {P : Program} {W : World} {g : FuncId} {args : Array Value} (h : Fn P (baseOf W) g args [] (fun v l => v = .bool true ∧ l = [])) : Calls P g args W fun e W' => e = .returned (.bool true) ∧ Kept [] W W' := by
  refine (h.run W [] (own_base W)).mono ?_
  rintro e w' ⟨v, l, rfl, ⟨rfl, rfl⟩, ho⟩
  exact ⟨rfl, ho.keeps⟩

theorem range_cell {W : World} {b o j : Nat} {v : Value} (h : W.cell? ⟨b, o + j, none⟩ = some v) : ∃ c t fr, W.heap[b]? = some (.cells c t fr) ∧ c[o + j]? = some v := by
  unfold World.cell? at h
  split at h
  · rename_i c e fr hb
    exact ⟨c, e, fr, hb, by simpa using h⟩
  · cases h
theorem roc_of {W : World} {b : Nat} {c : Array Value} {t : TypeId} {fr : Nat × Nat} (h : W.heap[b]? = some (.cells c t fr)) : ROc (baseOf W) b c.toList := ⟨[], t, fr, by simpa [baseOf, World.piece] using h⟩
theorem RoS.ofReads {W : World} {v : Value} {cs : List Value} {fp : List Nat} (h : Reads W v cs fp) : RoS (baseOf W) v cs := by
  obtain ⟨a, cap, rfl, h | ⟨b, o, rfl, hr, _⟩⟩ := h
  · exact ⟨a, cap, rfl, .inl h⟩
  · match cs, hr with
    | [], _ => exact ⟨_, cap, rfl, .inl rfl⟩
    | u :: cs, hr =>
      obtain ⟨c, t, fr, hb, _⟩ := range_cell (hr 0 u rfl)
      refine ⟨_, cap, rfl, .inr ⟨b, o, c.toList, rfl, roc_of hb, fun j x hx => ?_⟩⟩
      obtain ⟨c', t', fr', hb', hc'⟩ := range_cell (hr j x hx)
      rw [hb] at hb'
      injection hb' with e1
      injection e1 with e1
      subst e1
      rw [Nat.mul_one]
      simpa using hc'
/-- The elements of a slice, from what the row's reading gives. -/
theorem SliceAt.ro {α : Type} {W : World} {sz : Nat} {R : List Value → α → Prop} {v : Value} {l : List α} (h : SliceAt W sz R v l) (hsz : 0 < sz) : ∃ a cap, v = .slice a l.length cap ∧ (l = [] ∨ ∃ b o C, a = some ⟨b, o, none⟩ ∧ ROc (baseOf W) b C ∧ ∀ i (hi : i < l.length), ∃ cells, rdl C (o + i * sz) cells ∧ R cells l[i]) := by
  rcases h with ⟨rfl, rfl⟩ | ⟨a, cap, rfl, hl, hm, hi⟩
  · exact ⟨none, 0, rfl, .inl rfl⟩
  · refine ⟨some a, cap, rfl, ?_⟩
    by_cases h0 : l = []
    · exact .inl h0
    · right
      have hp : 0 < l.length := List.length_pos_iff.2 h0
      obtain ⟨cells, b, o, rfl, hb, hlen, hr, hR⟩ := hi 0 hp
      obtain ⟨c, t, fr, hbb, _⟩ := range_cell (hr 0 _ (List.getElem?_eq_getElem (by omega)))
      refine ⟨b, o, c.toList, rfl, roc_of hbb, fun i hil => ?_⟩
      obtain ⟨cells', b', o', e, _, hlen', hr', hR'⟩ := hi i hil
      injection e with e1 e2
      subst e1; subst e2
      refine ⟨cells', rdl_of fun j u hu => ?_, hR'⟩
      obtain ⟨c', t', fr', hb', hc'⟩ := range_cell (hr' j u hu)
      rw [hbb] at hb'
      injection hb' with e1
      injection e1 with e1
      subst e1
      simpa using hc'
end Go.Proofs.Ytgfbjabjkjbnlaa

/- How texts and lists of texts read. Conditions: none. -/
set_option linter.unusedSimpArgs false
set_option linter.unusedVariables false
namespace Go.Proofs.Ytgfbjabjkjbnlaa
open Go.ChangeShapes Go.WideShapes Go.ChangeAt Go.RowKit

section
variable {H : Type} {enc : TypeId × Value → H} {P : Program} {W : World}
theorem read_str {e : TypeId} (he : P.underlying e = some .string) (n : Nat) (cs : List Value) (y : DataW H × List MemPlace) (h : Tr enc P W n e cs = some y) : ∃ a : List UInt8, cs = [.string (strOf a)] ∧ a.length + 1 ≤ Rows.uptoBulk y.1 := by
  obtain ⟨s, h1, h2, _⟩ := DataW.trod_string he h
  refine ⟨s.data.toList, ?_, ?_⟩
  · rw [h1]; rfl
  · rw [h2]; simp [Rows.uptoBulk]
theorem read_strs {t e : TypeId} (ht : P.underlying t = some (.slice e)) (he : P.underlying e = some .string) (hc : P.cellsOf e = 1) (n : Nat) (c : Value) (y : DataW H × List MemPlace) (h : Tr enc P W n t [c] = some y) : ∃ l : List (List UInt8), RoS (baseOf W) c (l.map fun d => Value.string (strOf d)) ∧ (l.map fun d => d.length + 1).sum + 1 ≤ Rows.uptoBulk y.1 := by
  obtain ⟨v, l, hc, hs, hL, _⟩ := open_slice_R (R := fun cs (a : List UInt8) => cs = [.string (strOf a)]) (B := fun d : List UInt8 => d.length + 1) ht hc (by omega) (fun n cs y => read_str he n cs y) h
  simp only [List.cons.injEq, and_true] at hc
  subst hc
  obtain ⟨fp, hR, hfp⟩ := hs.reads (fun a : List UInt8 => Value.string (strOf a)) (fun cs a h => h)
  exact ⟨l, RoS.ofReads hR, hL⟩
end
theorem len_le_sum {α : Type} (f : α → Nat) : ∀ l : List α, l.length ≤ (l.map fun d => f d + 1).sum
  | [] => Nat.le_refl _
  | a :: l => by have := len_le_sum f l; simp only [List.map_cons, List.sum_cons, List.length_cons]; omega
end Go.Proofs.Ytgfbjabjkjbnlaa

/- More rules: numbers of 64 bits without sign, least and greatest, bytes of strings. Conditions: of each rule its own. -/
set_option linter.unusedSimpArgs false
set_option linter.unusedVariables false
namespace Go.Proofs.Ytgfbjabjkjbnlaa
open Go.RowKit
section
variable {P : Program} {B : Base} {n : Nat} {S l r : List Assn} {f : Fr} {K : Value → List Assn → Prop}
variable {d : Option Tmp} {ty : TypeId} {pos : String} {af : Array Edge} {gd : Option (Nat × Bool)}

theorem Qt.max {x y : Operand} {k : IntKind} {a b : Int} (hx : ev n f x = some (.int k a)) (hy : ev n f y = some (.int k b)) {ts : Array TypeId} : Qt P B n S ⟨d, .call ⟨.builtin .max, #[x, y], ts⟩, ty, pos, af, gd⟩ f (.int k (Max.max a b)) := ⟨fun w _ => by
  have h : (if a < b then b else a) = Max.max a b := by split <;> omega
  have h' : (if b > a then b else a) = Max.max a b := by split <;> omega
  simp [execOp, resolve, invoke, builtin, Builtin.max_, Builtin.max2, evu_eq hx, evu_eq hy, h, h']⟩
theorem Qt.min {x y : Operand} {k : IntKind} {a b : Int} (hx : ev n f x = some (.int k a)) (hy : ev n f y = some (.int k b)) {ts : Array TypeId} : Qt P B n S ⟨d, .call ⟨.builtin .min, #[x, y], ts⟩, ty, pos, af, gd⟩ f (.int k (Min.min a b)) := ⟨fun w _ => by
  have h : (if b < a then b else a) = Min.min a b := by split <;> omega
  simp [execOp, resolve, invoke, builtin, Builtin.min_, Builtin.min2, evu_eq hx, evu_eq hy, h]⟩
/-! append of so many noughts: 'append(s, make([]T, m)...)' -/
section
variable (w : World)
end
end
end Go.Proofs.Ytgfbjabjkjbnlaa

/- The package mvcc: what a manager is in memory; New, Begin, Now, Last, Tick, Snapshot, Abort. Conditions: sizes. -/
set_option linter.unusedSimpArgs false
set_option linter.unusedVariables false
namespace Go.Proofs.Ytgfbjabjkjbnlaa
open Go.RowKit

/-! lists of assertions -/
theorem Has.perm {L M : List Assn} (hp : L.Perm M) : ∀ {h : Piece}, Has L h → Has M h := by
  induction hp with
  | nil => exact fun H => H
  | cons A _ ih => exact fun H => Has.cons_imp (fun _ => ih) H
  | swap A A' l => exact fun H => Has.swap H
  | trans _ _ ih1 ih2 => exact fun H => ih2 (ih1 H)
theorem perm_erase {α : Type} : ∀ {L : List α} {i : Nat} {A : α}, L[i]? = some A → L.Perm (A :: L.eraseIdx i)
  | [], _, _, h => by simp at h
  | B :: L, 0, A, h => by simp at h; subst h; exact List.Perm.refl _
  | B :: L, i + 1, A, h => ((perm_erase (L := L) (i := i) (by simpa using h)).cons B).trans (List.Perm.swap ..)
theorem set_erase {α : Type} : ∀ {L : List α} {i : Nat} (A : α), i < L.length → (L.set i A).eraseIdx i = L.eraseIdx i
  | [], _, _, h => by simp at h
  | B :: L, 0, A, _ => rfl
  | B :: L, i + 1, A, h => by simp [set_erase (L := L) (i := i) A (by simpa using h)]
theorem sep_take {L l : List Assn} {i : Nat} {A : Assn} (hi : L[i]? = some A) {h : Piece} (H : Has (sepL L :: l) h) : Has (A :: sepL (L.eraseIdx i) :: l) h := by
  obtain ⟨h1, h2, d, a, b, e1, e2⟩ := H
  obtain ⟨k1, k2, d2, a1, a2, hA, f2⟩ := Has.perm (perm_erase hi) e1
  have d1 := d.disj_symm.disj_le a1
  have d3 := d.disj_symm.disj_le a2
  exact ⟨k1, Piece.add k2 h2, (Piece.add_disj d2.disj_symm d1).disj_symm, a1.le_trans a, Piece.add_le (a2.le_trans a) b, hA, k2, h2, d3.disj_symm, Piece.le_add_left _ _, Piece.le_add_right d3.disj_symm, f2, e2⟩
theorem sep_put {L l : List Assn} {i : Nat} {A : Assn} (hi : i < L.length) {h : Piece} (H : Has (A :: sepL (L.eraseIdx i) :: l) h) : Has (sepL (L.set i A) :: l) h := by
  obtain ⟨k1, k0, d0, a1, a0, hA, k2, h2, d3, b1, b2, f2, e2⟩ := H
  have d12 := d0.disj_le b1
  have d1h := d0.disj_le b2
  refine ⟨Piece.add k1 k2, h2, Piece.add_disj d1h d3, Piece.add_le a1 (b1.le_trans a0), b2.le_trans a0, ?_, e2⟩
  refine Has.perm (perm_erase (L := L.set i A) (i := i) (by rw [List.getElem?_set_self hi])).symm ?_
  rw [set_erase A hi]
  exact ⟨k1, k2, d12, Piece.le_add_left _ _, Piece.le_add_right d12, hA, f2⟩
theorem sep_sub {L M l : List Assn} (hs : M.Sublist L) {h : Piece} (H : Has (sepL L :: l) h) : Has (sepL M :: l) h := by
  refine Has.weaken (A := sepL L) (fun k hk => ?_) H
  show Has M k
  have : ∀ {L M : List Assn}, M.Sublist L → ∀ k, Has L k → Has M k := by
    intro L M hs
    induction hs with
    | slnil => exact fun _ H => H
    | cons A _ ih => exact fun k H => ih k H.tail
    | cons_cons A _ ih => exact fun k H => Has.cons_imp ih H
  exact this hs k hk
theorem sep_nil {l : List Assn} {h : Piece} (H : Has l h) : Has (sepL [] :: l) h := ⟨fun _ => none, h, ⟨fun _ => .inl rfl⟩, ⟨fun _ _ e => (by cases e)⟩, Piece.le_refl h, trivial, H⟩
theorem sep_push {L l : List Assn} {A : Assn} {h : Piece} (H : Has (A :: sepL L :: l) h) : Has (sepL (L ++ [A]) :: l) h := by
  obtain ⟨k1, k0, d0, a1, a0, hA, k2, h2, d3, b1, b2, f2, e2⟩ := H
  have d12 := d0.disj_le b1
  have d1h := d0.disj_le b2
  refine ⟨Piece.add k1 k2, h2, Piece.add_disj d1h d3, Piece.add_le a1 (b1.le_trans a0), b2.le_trans a0, ?_, e2⟩
  exact Has.perm (List.perm_append_singleton A L).symm ⟨k1, k2, d12, Piece.le_add_left _ _, Piece.le_add_right d12, hA, f2⟩

/-! what a manager is -/
abbrev Str := List UInt8
abbrev kZ (a : Int) : Value := .int .i64 a
abbrev kT (d : Str) : Value := .string (strOf d)
structure Tx where
  id : Int
  snap : Int
  gk : Nat
  ks : List (Str × Int)
abbrev txV (p : Int × Nat) : Value := .agg #[.int .i64 p.1, .map (some p.2)]
abbrev txP (t : Tx) : Int × (Int × Nat) := (t.id, (t.snap, t.gk))
structure Mg where
  ga : Nat
  gw : Nat
  now : Int
  last : Int
  begun : Int
  T : List Tx
  W : List (Str × Int)
abbrev mgB (g : Nat) (m : Mg) : Assn := blk g [.int .i64 m.now, .int .i64 m.last, .map (some m.ga), .map (some m.gw), .int .i64 m.begun] 45
abbrev actA (m : Mg) : Assn := mpA kZ txV m.ga (m.T.map txP)
abbrev wrA (m : Mg) : Assn := mpA kT kZ m.gw m.W
def ksA (T : List Tx) : Assn := sepL (T.map fun t => mpA kT kZ t.gk t.ks)
abbrev mgC (g : Nat) (m : Mg) : List Assn := [mgB g m, actA m, wrA m, ksA m.T]
theorem Mv.okA : MapOk Try.prog 42 kZ (.agg #[.int .i64 0, .map none]) := MapOk.mk3 2 64 (.int .i64) Try.underlying42 Try.underlying2 (fun _ => rfl) (by kernel_rfl) i64_inj
theorem Mv.okW : MapOk Try.prog 43 kT (kZ 0) := MapOk.mk3 9 2 .string Try.underlying43 Try.underlying9 (fun _ => trivial) (by kernel_rfl) strV_inj
theorem Mv.okK : MapOk Try.prog 62 kT (kZ 0) := MapOk.mk3 9 3 .string Try.underlying62 Try.underlying9 (fun _ => trivial) (by kernel_rfl) strV_inj

/-- The transaction of a number. -/
def findT (T : List Tx) (t : Int) : Option (Nat × Tx) := match T.findIdx? fun x => decide (x.id = t) with
  | none => none
  | some i => T[i]?.map fun x => (i, x)
theorem findT_some {T : List Tx} {t : Int} {i : Nat} {x : Tx} (h : findT T t = some (i, x)) : T[i]? = some x ∧ x.id = t ∧ lookL (T.map txP) t = some (x.snap, x.gk) := by
  unfold findT at h
  split at h
  · cases h
  · rename_i j hj
    obtain ⟨hl, h1, h2⟩ := List.findIdx?_eq_some_iff_getElem.1 hj
    rw [List.getElem?_eq_getElem hl] at h
    simp only [Option.map_some, Option.some.injEq, Prod.mk.injEq] at h
    obtain ⟨rfl, rfl⟩ := h
    refine ⟨List.getElem?_eq_getElem hl, of_decide_eq_true h1, ?_⟩
    have : ∀ (T : List Tx) (j : Nat) (hl : j < T.length), T[j].id = t → (∀ (k : Nat) (hk : k < j), T[k].id ≠ t) → lookL (T.map txP) t = some (T[j].snap, T[j].gk) := by
      intro T
      induction T with
      | nil => intro j hl; simp at hl
      | cons a T ih =>
        intro j hl e hne
        cases j with
        | zero => simp at e; simp [lookL, e]
        | succ j =>
          have h0 := hne 0 (by omega)
          simp at h0
          simp only [List.map_cons, lookL, h0, if_false]
          exact ih j (by simpa using hl) (by simpa using e) (fun k hk => by have := hne (k + 1) (by omega); simpa using this)
    exact this T j hl (of_decide_eq_true h1) fun k hk => by have := h2 k hk; simpa using this
theorem findT_none {T : List Tx} {t : Int} (h : findT T t = none) : lookL (T.map txP) t = none ∧ ∀ x ∈ T, x.id ≠ t := by
  unfold findT at h
  split at h
  · rename_i hj
    have hno : ∀ x ∈ T, x.id ≠ t := fun x hx => by
      have := List.findIdx?_eq_none_iff.1 hj x hx
      simpa using this
    refine ⟨?_, hno⟩
    clear h hj
    induction T with
    | nil => rfl
    | cons a T ih => simp only [List.map_cons, lookL, hno a (List.mem_cons_self ..), if_false]; exact ih fun x hx => hno x (List.mem_cons_of_mem _ hx)
  · rename_i j hj
    obtain ⟨hl, _, _⟩ := List.findIdx?_eq_some_iff_getElem.1 hj
    rw [List.getElem?_eq_getElem hl] at h; cases h
/-- The transactions without one. -/
def dropT (T : List Tx) (t : Int) : List Tx := T.filter fun x => decide (x.id ≠ t)
theorem cut_drop (T : List Tx) (t : Int) : cutL (T.map txP) t = (dropT T t).map txP := by
  unfold cutL dropT
  rw [List.filter_map]
  rfl
theorem ks_drop {T : List Tx} (t : Int) {l : List Assn} {h : Piece} (H : Has (ksA T :: l) h) : Has (ksA (dropT T t) :: l) h := sep_sub ((List.filter_sublist).map _) H
theorem ks_take {T : List Tx} {i : Nat} {x : Tx} (hi : T[i]? = some x) {l : List Assn} {h : Piece} (H : Has (ksA T :: l) h) : Has (mpA kT kZ x.gk x.ks :: ksA (T.eraseIdx i) :: l) h := by
  have := sep_take (L := T.map fun t : Tx => mpA kT kZ t.gk t.ks) (i := i) (A := mpA kT kZ x.gk x.ks) (by rw [List.getElem?_map, hi]; rfl) H
  unfold ksA
  rw [map_erase]
  exact this
theorem ks_put {T : List Tx} {i : Nat} (x : Tx) (hi : i < T.length) {l : List Assn} {h : Piece} (H : Has (mpA kT kZ x.gk x.ks :: ksA (T.eraseIdx i) :: l) h) : Has (ksA (T.set i x) :: l) h := by
  unfold ksA at H ⊢
  rw [map_erase] at H
  have := sep_put (L := T.map fun t : Tx => mpA kT kZ t.gk t.ks) (i := i) (by simpa using hi) H
  rw [List.map_set]
  exact this
theorem ks_push {T : List Tx} (x : Tx) {l : List Assn} {h : Piece} (H : Has (mpA kT kZ x.gk x.ks :: ksA T :: l) h) : Has (ksA (T ++ [x]) :: l) h := by
  unfold ksA at H ⊢
  rw [List.map_append]
  exact sep_push H

theorem Own.ks_push {B : Base} {w : World} {L r r2 : List Assn} {T : List Tx} (x : Tx) (H : Own B w L) [k1 : TakeA (mpA kT kZ x.gk x.ks) L r] [k2 : TakeA (ksA T) r r2] : Own B w (ksA (T ++ [x]) :: r2) := H.map fun h K => @Go.Proofs.Ytgfbjabjkjbnlaa.ks_push T x r2 h (Has.cons_imp k2.take (k1.take _ K))
theorem Own.ks_take {B : Base} {w : World} {L r : List Assn} {T : List Tx} {i : Nat} {x : Tx} (hi : T[i]? = some x) (H : Own B w L) [k2 : TakeA (ksA T) L r] : Own B w (mpA kT kZ x.gk x.ks :: ksA (T.eraseIdx i) :: r) := H.map fun h K => @Go.Proofs.Ytgfbjabjkjbnlaa.ks_take T i x hi r h (k2.take _ K)
theorem Own.ks_put {B : Base} {w : World} {L r r2 : List Assn} {T : List Tx} {i : Nat} (x : Tx) (hi : i < T.length) (H : Own B w L) [k1 : TakeA (mpA kT kZ x.gk x.ks) L r] [k2 : TakeA (ksA (T.eraseIdx i)) r r2] : Own B w (ksA (T.set i x) :: r2) := H.map fun h K => @Go.Proofs.Ytgfbjabjkjbnlaa.ks_put T i x hi r2 h (Has.cons_imp k2.take (k1.take _ K))
theorem set_self {α : Type} {T : List α} {i : Nat} {x : α} (hi : T[i]? = some x) : T.set i x = T := by
  apply List.ext_getElem?
  intro j
  rw [List.getElem?_set]
  split
  · rename_i e; subst e
    rw [if_pos (List.getElem?_eq_some_iff.1 hi).1, hi]
  · rfl
theorem Own.ks_back {B : Base} {w : World} {L r r2 : List Assn} {T : List Tx} {i : Nat} {x : Tx} (hi : T[i]? = some x) (H : Own B w L) [k1 : TakeA (mpA kT kZ x.gk x.ks) L r] [k2 : TakeA (ksA (T.eraseIdx i)) r r2] : Own B w (ksA T :: r2) := by
  have := Own.ks_put (T := T) x (List.getElem?_eq_some_iff.1 hi).1 H (k1 := k1) (k2 := k2)
  rwa [set_self hi] at this
theorem Own.ks_drop {B : Base} {w : World} {L r : List Assn} {T : List Tx} (t : Int) (H : Own B w L) [k2 : TakeA (ksA T) L r] : Own B w (ksA (dropT T t) :: r) := H.map fun h K => @Go.Proofs.Ytgfbjabjkjbnlaa.ks_drop T t r h (k2.take _ K)

theorem Mv.new (B : Base) (last begun : Int) (hb : -(2 ^ 63) ≤ begun ∧ begun < 2 ^ 63) (hl : -(2 ^ 63) ≤ last ∧ last < 2 ^ 63) :
    Fn Try.prog B 9 #[.int .i64 last, .int .i64 begun] [] (fun u l => ∃ g ga gw, u = .pointer (some ⟨g, 0, none⟩) ∧ l = mgC g ⟨ga, gw, min (max last 0) 1099511627776, min (max last 0) 1099511627776, min (max begun 0) 4611686018427387904, [], []⟩) := by
  refine Fn.enter2 18 Try.func9 rfl rfl (Nat.le_of_ble_eq_true rfl) (fun F => ?_)
  try simp only [List.cons_append, List.nil_append]
  refine T.seq ?_
  refine T.region ?_
  refine LW.q rfl (Qt.assign rfl) ?_
  refine LW.done ?_
  refine T.seq ?_
  refine T.region ?_
  refine LW.q rfl (Qt.move rfl) ?_
  refine LW.q rfl (Qt.max rfl rfl) ?_
  refine LW.q rfl (Qt.min rfl rfl) ?_
  refine LW.q rfl (Qt.assign rfl) ?_
  refine LW.done ?_
  refine T.seq ?_
  refine T.region ?_
  refine LW.q rfl (Qt.move rfl) ?_
  refine LW.q rfl (Qt.move rfl) ?_
  refine LW.q rfl (Qt.build [(0, 1), (1, 1)] [.int .i64 0, .int .i64 0] [_, _] [(0, _), (1, _)] (by kernel_rfl) (by unfold zeroB; kernel_rfl) rfl rfl) ?_
  refine LW.e rfl (Ef.makeMap Int (Int × Nat) kZ txV ?_)
  rintro ga
  try simp only [List.cons_append, List.nil_append]
  refine LW.e rfl (Ef.makeMap Str Int kT kZ ?_)
  rintro gw
  try simp only [List.cons_append, List.nil_append]
  refine LW.conv (l' := ksA [] :: _) (fun w ho => ho.map fun h H => sep_nil H) ?_
  refine LW.q rfl (Qt.move rfl) ?_
  refine LW.q rfl (Qt.max rfl rfl) ?_
  refine LW.q rfl (Qt.min rfl rfl) ?_
  refine LW.q rfl (Qt.build [(0, 2), (2, 1), (3, 1), (4, 1)] [.int .i64 0, .int .i64 0, .map none, .map none, .int .i64 0] [_, _, _, _, _] [(0, _), (1, _), (2, _), (3, _)] (by kernel_rfl) (by unfold zeroB; kernel_rfl) rfl rfl) ?_
  refine LW.e rfl (Ef.box [_, _, _, _, _] rfl rfl ?_)
  intro g17
  refine LW.q rfl (Qt.assign rfl) ?_
  refine LW.done ?_
  refine T.ret ?_
  exact ⟨.inl rfl, _, _, res [_] rfl ⟨rvT rfl, trivial⟩, ⟨_, ga, gw, rfl, rfl⟩, (by simp only [mgC, mgB, actA, wrA, List.map_nil, List.cons_append, List.nil_append]; exact Sub.any)⟩
theorem Mv.now (B : Base) (g : Nat) (m : Mg) : Fn Try.prog B 17 #[.pointer (some ⟨g, 0, none⟩)] [mgB g m] (fun u l => u = .int .i64 m.now ∧ l = [mgB g m]) := by
  refine Fn.enter1 7 Try.func17 rfl rfl (Nat.le_of_ble_eq_true rfl) (fun F => ?_)
  try simp only [List.cons_append, List.nil_append]
  refine T.seq ?_
  refine T.region ?_
  refine LW.q rfl (Qt.assign rfl) ?_
  refine LW.done ?_
  refine T.seq ?_
  refine T.region ?_
  refine LW.q rfl (Qt.move rfl) ?_
  refine LW.q rfl (Qt.nilCheck rfl) ?_
  refine LW.q rfl (Qt.fieldAddr0 (by kernel_rfl) rfl) ?_
  first | refine LW.q rfl (Qt.load (by kernel_rfl) rfl rfl) ?_ | refine LW.q rfl (Qt.load (by kernel_rfl) rfl (map_at _ _ _ (by omega))) ?_ | refine LW.q rfl (Qt.load (by kernel_rfl) rfl (flat_cell0 _ _ _ (by intros; rfl) _ (by omega) (by rfl))) ?_ | refine LW.q rfl (Qt.load (by kernel_rfl) rfl (flat_cell _ _ _ (by intros; rfl) _ _ (by omega) (by rfl))) ?_ | refine LW.q rfl (Qt.load (by kernel_rfl) rfl (bytes_at _ _ (by omega))) ?_
  refine LW.q rfl (Qt.assign rfl) ?_
  refine LW.done ?_
  refine T.ret ?_
  exact ⟨.inl rfl, _, _, res [_] rfl ⟨rvT rfl, trivial⟩, ⟨rfl, rfl⟩, Sub.any⟩
theorem Mv.last (B : Base) (g : Nat) (m : Mg) : Fn Try.prog B 16 #[.pointer (some ⟨g, 0, none⟩)] [mgB g m] (fun u l => u = .int .i64 m.last ∧ l = [mgB g m]) := by
  refine Fn.enter1 7 Try.func16 rfl rfl (Nat.le_of_ble_eq_true rfl) (fun F => ?_)
  try simp only [List.cons_append, List.nil_append]
  refine T.seq ?_
  refine T.region ?_
  refine LW.q rfl (Qt.assign rfl) ?_
  refine LW.done ?_
  refine T.seq ?_
  refine T.region ?_
  refine LW.q rfl (Qt.move rfl) ?_
  refine LW.q rfl (Qt.nilCheck rfl) ?_
  refine LW.q rfl (Qt.fieldAddr (off := 1) (by kernel_rfl) rfl) ?_
  first | refine LW.q rfl (Qt.load (by kernel_rfl) rfl rfl) ?_ | refine LW.q rfl (Qt.load (by kernel_rfl) rfl (map_at _ _ _ (by omega))) ?_ | refine LW.q rfl (Qt.load (by kernel_rfl) rfl (flat_cell0 _ _ _ (by intros; rfl) _ (by omega) (by rfl))) ?_ | refine LW.q rfl (Qt.load (by kernel_rfl) rfl (flat_cell _ _ _ (by intros; rfl) _ _ (by omega) (by rfl))) ?_ | refine LW.q rfl (Qt.load (by kernel_rfl) rfl (bytes_at _ _ (by omega))) ?_
  refine LW.q rfl (Qt.assign rfl) ?_
  refine LW.done ?_
  refine T.ret ?_
  exact ⟨.inl rfl, _, _, res [_] rfl ⟨rvT rfl, trivial⟩, ⟨rfl, rfl⟩, Sub.any⟩
def tickZ (now n : Int) : Int := if 0 < n then now + min n (1099511627776 - now) else now
theorem Mv.tick (B : Base) (g : Nat) (m : Mg) (n : Int) (hn : 0 ≤ m.now ∧ m.now ≤ 1099511627776) : Fn Try.prog B 15 #[.pointer (some ⟨g, 0, none⟩), .int .i64 n] [mgB g m] (fun u l => u = .tuple #[] ∧ l = [mgB g { m with now := tickZ m.now n }]) := by
 refine Fn.enter2 20 Try.func15 rfl rfl (Nat.le_of_ble_eq_true rfl) (fun F => ?_)
 try simp only [List.cons_append, List.nil_append]
 refine T.seq ?_
 refine T.region ?_
 refine LW.q rfl (Qt.move rfl) ?_
 refine LW.q rfl (Qt.gtr rfl rfl) ?_
 refine LW.done ?_
 refine T.condP rfl (fun h => ?_) (fun h => ?_)
 ·
  refine T.drawAll 12 (by kernel_rfl) (Nat.le_of_ble_eq_true rfl) (by kernel_rfl) ?_
  refine RW.q 0 rfl rfl (by kernel_rfl) (Sub.refl _) (Qt.move rfl) ?_
  refine RW.q 1 rfl rfl (by kernel_rfl) (Sub.refl _) (Qt.nilCheck rfl) ?_
  refine RW.q 2 rfl rfl (by kernel_rfl) (Sub.refl _) (Qt.fieldAddr0 (by kernel_rfl) rfl) ?_
  first | refine RW.q 3 rfl rfl (by kernel_rfl) (Sub.refl _) (Qt.load (by kernel_rfl) rfl rfl) ?_ | refine RW.q 3 rfl rfl (by kernel_rfl) (Sub.refl _) (Qt.load (by kernel_rfl) rfl (map_at _ _ _ (by omega))) ?_ | refine RW.q 3 rfl rfl (by kernel_rfl) (Sub.refl _) (Qt.load (by kernel_rfl) rfl (flat_cell0 _ _ _ (by intros; rfl) _ (by omega) (by rfl))) ?_ | refine RW.q 3 rfl rfl (by kernel_rfl) (Sub.refl _) (Qt.load (by kernel_rfl) rfl (flat_cell _ _ _ (by intros; rfl) _ _ (by omega) (by rfl))) ?_ | refine RW.q 3 rfl rfl (by kernel_rfl) (Sub.refl _) (Qt.load (by kernel_rfl) rfl (bytes_at _ _ (by omega))) ?_
  refine RW.q 4 rfl rfl (by kernel_rfl) (Sub.refl _) (Qt.move rfl) ?_
  refine RW.q 5 rfl rfl (by kernel_rfl) (Sub.refl _) (Qt.move rfl) ?_
  refine RW.q 6 rfl rfl (by kernel_rfl) (Sub.refl _) (Qt.nilCheck rfl) ?_
  refine RW.q 7 rfl rfl (by kernel_rfl) (Sub.refl _) (Qt.fieldAddr0 (by kernel_rfl) rfl) ?_
  first | refine RW.q 8 rfl rfl (by kernel_rfl) (Sub.refl _) (Qt.load (by kernel_rfl) rfl rfl) ?_ | refine RW.q 8 rfl rfl (by kernel_rfl) (Sub.refl _) (Qt.load (by kernel_rfl) rfl (map_at _ _ _ (by omega))) ?_ | refine RW.q 8 rfl rfl (by kernel_rfl) (Sub.refl _) (Qt.load (by kernel_rfl) rfl (flat_cell0 _ _ _ (by intros; rfl) _ (by omega) (by rfl))) ?_ | refine RW.q 8 rfl rfl (by kernel_rfl) (Sub.refl _) (Qt.load (by kernel_rfl) rfl (flat_cell _ _ _ (by intros; rfl) _ _ (by omega) (by rfl))) ?_ | refine RW.q 8 rfl rfl (by kernel_rfl) (Sub.refl _) (Qt.load (by kernel_rfl) rfl (bytes_at _ _ (by omega))) ?_
  refine RW.q 9 rfl rfl (by kernel_rfl) (Sub.refl _) (Qt.sub rfl rfl (wr64 (by omega) (by omega))) ?_
  refine RW.q 10 rfl rfl (by kernel_rfl) (Sub.refl _) (Qt.min rfl rfl) ?_
  refine RW.q 11 rfl rfl (by kernel_rfl) (Sub.refl _) (Qt.add rfl rfl (wr64 (by omega) (by omega))) ?_
  refine RW.done (by rfl) ?_
  simp only [List.drop_succ_cons, List.drop_zero, List.drop_nil]
  refine LW.q rfl (Qt.nilCheck rfl) ?_
  refine LW.q rfl (Qt.fieldAddr0 (by kernel_rfl) rfl) ?_
  refine LW.e0 rfl (Ef.store1 (by kernel_rfl) rfl rfl rfl (by first | (simp; done) | (simp; omega)) ?_)
  try simp only [List.set_cons_zero, List.set_cons_succ]
  refine LW.done ?_
  exact ⟨.inr rfl, _, _, res [] rfl trivial, ⟨rfl, by unfold tickZ; rw [if_pos h]⟩, Sub.any⟩
 ·
  refine T.skip ?_
  exact ⟨.inr rfl, _, _, res [] rfl trivial, ⟨rfl, by unfold tickZ; rw [if_neg h]⟩, Sub.any⟩
theorem Mv.begin (B : Base) (g : Nat) (m : Mg) (hb : m.begun < 2 ^ 62 + 2 ^ 61) (hb0 : 0 ≤ m.begun) (hid : ∀ x ∈ m.T, x.id ≤ m.begun) :
    Fn Try.prog B 10 #[.pointer (some ⟨g, 0, none⟩)] (mgC g m) (fun u l => ∃ gk, u = .tuple #[.int .i64 (m.begun + 1), .int .i64 m.last] ∧ l = mgC g { m with begun := m.begun + 1, T := m.T ++ [⟨m.begun + 1, m.last, gk, []⟩] }) := by
  have hno : lookL (m.T.map txP) (m.begun + 1) = none := by
    refine (findT_none (T := m.T) (t := m.begun + 1) ?_).1
    unfold findT
    rw [List.findIdx?_eq_none_iff.2 fun x hx => by have := hid x hx; simp; omega]
  simp only [mgC]
  refine Fn.enter1 35 Try.func10 rfl rfl (Nat.le_of_ble_eq_true rfl) (fun F => ?_)
  try simp only [List.cons_append, List.nil_append]
  refine T.seq ?_
  refine T.region ?_
  refine LW.q rfl (Qt.assign rfl) ?_
  refine LW.q rfl (Qt.assign rfl) ?_
  refine LW.done ?_
  refine T.seq ?_
  refine T.region ?_
  refine LW.q rfl (Qt.move rfl) ?_
  refine LW.q rfl (Qt.nilCheck rfl) ?_
  refine LW.q rfl (Qt.fieldAddr (off := 4) (by kernel_rfl) rfl) ?_
  first | refine LW.q rfl (Qt.load (by kernel_rfl) rfl rfl) ?_ | refine LW.q rfl (Qt.load (by kernel_rfl) rfl (map_at _ _ _ (by omega))) ?_ | refine LW.q rfl (Qt.load (by kernel_rfl) rfl (flat_cell0 _ _ _ (by intros; rfl) _ (by omega) (by rfl))) ?_ | refine LW.q rfl (Qt.load (by kernel_rfl) rfl (flat_cell _ _ _ (by intros; rfl) _ _ (by omega) (by rfl))) ?_ | refine LW.q rfl (Qt.load (by kernel_rfl) rfl (bytes_at _ _ (by omega))) ?_
  refine LW.q rfl (Qt.add rfl rfl (wr64 (by omega) (by omega))) ?_
  refine LW.q rfl (Qt.nilCheck rfl) ?_
  refine LW.q rfl (Qt.fieldAddr (off := 4) (by kernel_rfl) rfl) ?_
  refine LW.e0 rfl (Ef.store1 (by kernel_rfl) rfl rfl rfl (by first | (simp; done) | (simp; omega)) ?_)
  try simp only [List.set_cons_zero, List.set_cons_succ]
  refine LW.done ?_
  refine T.seq ?_
  refine T.drawAll 15 (by kernel_rfl) (Nat.le_of_ble_eq_true rfl) (by kernel_rfl) ?_
  refine RW.q 0 rfl rfl (by kernel_rfl) (Sub.refl _) (Qt.move rfl) ?_
  refine RW.q 1 rfl rfl (by kernel_rfl) (Sub.refl _) (Qt.nilCheck rfl) ?_
  refine RW.q 2 rfl rfl (by kernel_rfl) (Sub.refl _) (Qt.fieldAddr (off := 2) (by kernel_rfl) rfl) ?_
  first | refine RW.q 3 rfl rfl (by kernel_rfl) (Sub.refl _) (Qt.load (by kernel_rfl) rfl rfl) ?_ | refine RW.q 3 rfl rfl (by kernel_rfl) (Sub.refl _) (Qt.load (by kernel_rfl) rfl (map_at _ _ _ (by omega))) ?_ | refine RW.q 3 rfl rfl (by kernel_rfl) (Sub.refl _) (Qt.load (by kernel_rfl) rfl (flat_cell0 _ _ _ (by intros; rfl) _ (by omega) (by rfl))) ?_ | refine RW.q 3 rfl rfl (by kernel_rfl) (Sub.refl _) (Qt.load (by kernel_rfl) rfl (flat_cell _ _ _ (by intros; rfl) _ _ (by omega) (by rfl))) ?_ | refine RW.q 3 rfl rfl (by kernel_rfl) (Sub.refl _) (Qt.load (by kernel_rfl) rfl (bytes_at _ _ (by omega))) ?_
  refine RW.q 4 rfl rfl (by kernel_rfl) (Sub.refl _) (Qt.move rfl) ?_
  refine RW.q 5 rfl rfl (by kernel_rfl) (Sub.refl _) (Qt.nilCheck rfl) ?_
  refine RW.q 6 rfl rfl (by kernel_rfl) (Sub.refl _) (Qt.fieldAddr (off := 4) (by kernel_rfl) rfl) ?_
  first | refine RW.q 7 rfl rfl (by kernel_rfl) (Sub.refl _) (Qt.load (by kernel_rfl) rfl rfl) ?_ | refine RW.q 7 rfl rfl (by kernel_rfl) (Sub.refl _) (Qt.load (by kernel_rfl) rfl (map_at _ _ _ (by omega))) ?_ | refine RW.q 7 rfl rfl (by kernel_rfl) (Sub.refl _) (Qt.load (by kernel_rfl) rfl (flat_cell0 _ _ _ (by intros; rfl) _ (by omega) (by rfl))) ?_ | refine RW.q 7 rfl rfl (by kernel_rfl) (Sub.refl _) (Qt.load (by kernel_rfl) rfl (flat_cell _ _ _ (by intros; rfl) _ _ (by omega) (by rfl))) ?_ | refine RW.q 7 rfl rfl (by kernel_rfl) (Sub.refl _) (Qt.load (by kernel_rfl) rfl (bytes_at _ _ (by omega))) ?_
  refine RW.q 8 rfl rfl (by kernel_rfl) (Sub.refl _) (Qt.move rfl) ?_
  refine RW.q 9 rfl rfl (by kernel_rfl) (Sub.refl _) (Qt.nilCheck rfl) ?_
  refine RW.q 10 rfl rfl (by kernel_rfl) (Sub.refl _) (Qt.fieldAddr0 (by kernel_rfl) rfl) ?_
  refine RW.q 11 rfl rfl (by kernel_rfl) (Sub.refl _) (Qt.fieldAddr (off := 1) (by kernel_rfl) rfl) ?_
  first | refine RW.q 12 rfl rfl (by kernel_rfl) (Sub.refl _) (Qt.load (by kernel_rfl) rfl rfl) ?_ | refine RW.q 12 rfl rfl (by kernel_rfl) (Sub.refl _) (Qt.load (by kernel_rfl) rfl (map_at _ _ _ (by omega))) ?_ | refine RW.q 12 rfl rfl (by kernel_rfl) (Sub.refl _) (Qt.load (by kernel_rfl) rfl (flat_cell0 _ _ _ (by intros; rfl) _ (by omega) (by rfl))) ?_ | refine RW.q 12 rfl rfl (by kernel_rfl) (Sub.refl _) (Qt.load (by kernel_rfl) rfl (flat_cell _ _ _ (by intros; rfl) _ _ (by omega) (by rfl))) ?_ | refine RW.q 12 rfl rfl (by kernel_rfl) (Sub.refl _) (Qt.load (by kernel_rfl) rfl (bytes_at _ _ (by omega))) ?_
  refine RW.one 13 (by kernel_rfl) ?_
  refine RO.e rfl rfl (Ef.makeMap Str Int kT kZ ?_)
  rintro gk
  try simp only [List.cons_append, List.nil_append]
  refine ⟨Sub.any, ?_⟩
  refine RW.q 14 rfl rfl (by kernel_rfl) (Sub.refl _) (Qt.build [(0, 1), (1, 1)] [.int .i64 0, .map none] [_, _] [(0, _), (1, _)] (by kernel_rfl) (by unfold zeroB; kernel_rfl) rfl rfl) ?_
  refine RW.done (by rfl) ?_
  simp only [List.drop_succ_cons, List.drop_zero, List.drop_nil]
  refine LW.e0 rfl (Ef.mapUpdate Mv.okA rfl (m.begun + 1) rfl (m.last, gk) rfl ?_)
  try simp only [List.cons_append, List.nil_append]
  rw [putL_new hno, show m.T.map txP ++ [(m.begun + 1, (m.last, gk))] = (m.T ++ [(⟨m.begun + 1, m.last, gk, []⟩ : Tx)]).map txP by simp]
  refine LW.conv (fun w ho => Own.ks_push (T := m.T) ⟨m.begun + 1, m.last, gk, []⟩ ho) ?_
  refine LW.done ?_
  refine T.seq ?_
  refine T.drawAll 10 (by kernel_rfl) (Nat.le_of_ble_eq_true rfl) (by kernel_rfl) ?_
  refine RW.q 0 rfl rfl (by kernel_rfl) (Sub.refl _) (Qt.move rfl) ?_
  refine RW.q 1 rfl rfl (by kernel_rfl) (Sub.refl _) (Qt.nilCheck rfl) ?_
  refine RW.q 2 rfl rfl (by kernel_rfl) (Sub.refl _) (Qt.fieldAddr (off := 4) (by kernel_rfl) rfl) ?_
  first | refine RW.q 3 rfl rfl (by kernel_rfl) (Sub.refl _) (Qt.load (by kernel_rfl) rfl rfl) ?_ | refine RW.q 3 rfl rfl (by kernel_rfl) (Sub.refl _) (Qt.load (by kernel_rfl) rfl (map_at _ _ _ (by omega))) ?_ | refine RW.q 3 rfl rfl (by kernel_rfl) (Sub.refl _) (Qt.load (by kernel_rfl) rfl (flat_cell0 _ _ _ (by intros; rfl) _ (by omega) (by rfl))) ?_ | refine RW.q 3 rfl rfl (by kernel_rfl) (Sub.refl _) (Qt.load (by kernel_rfl) rfl (flat_cell _ _ _ (by intros; rfl) _ _ (by omega) (by rfl))) ?_ | refine RW.q 3 rfl rfl (by kernel_rfl) (Sub.refl _) (Qt.load (by kernel_rfl) rfl (bytes_at _ _ (by omega))) ?_
  refine RW.q 4 rfl rfl (by kernel_rfl) (Sub.refl _) (Qt.move rfl) ?_
  refine RW.q 5 rfl rfl (by kernel_rfl) (Sub.refl _) (Qt.nilCheck rfl) ?_
  refine RW.q 6 rfl rfl (by kernel_rfl) (Sub.refl _) (Qt.fieldAddr0 (by kernel_rfl) rfl) ?_
  refine RW.q 7 rfl rfl (by kernel_rfl) (Sub.refl _) (Qt.fieldAddr (off := 1) (by kernel_rfl) rfl) ?_
  first | refine RW.q 8 rfl rfl (by kernel_rfl) (Sub.refl _) (Qt.load (by kernel_rfl) rfl rfl) ?_ | refine RW.q 8 rfl rfl (by kernel_rfl) (Sub.refl _) (Qt.load (by kernel_rfl) rfl (map_at _ _ _ (by omega))) ?_ | refine RW.q 8 rfl rfl (by kernel_rfl) (Sub.refl _) (Qt.load (by kernel_rfl) rfl (flat_cell0 _ _ _ (by intros; rfl) _ (by omega) (by rfl))) ?_ | refine RW.q 8 rfl rfl (by kernel_rfl) (Sub.refl _) (Qt.load (by kernel_rfl) rfl (flat_cell _ _ _ (by intros; rfl) _ _ (by omega) (by rfl))) ?_ | refine RW.q 8 rfl rfl (by kernel_rfl) (Sub.refl _) (Qt.load (by kernel_rfl) rfl (bytes_at _ _ (by omega))) ?_
  refine RW.q 9 rfl rfl (by kernel_rfl) (Sub.refl _) (Qt.assign rfl) ?_
  refine RW.done (by rfl) ?_
  simp only [List.drop_succ_cons, List.drop_zero, List.drop_nil]
  refine LW.q rfl (Qt.assign rfl) ?_
  refine LW.done ?_
  refine T.ret ?_
  exact ⟨.inl rfl, _, _, res [_, _] rfl ⟨rvT rfl, rvT rfl, trivial⟩, ⟨gk, rfl, rfl⟩, Sub.any⟩
end Go.Proofs.Ytgfbjabjkjbnlaa

/- The package mvcc: Snapshot, Abort, Write, clash, Check. Conditions: sizes; that what is handed in can be read. -/
set_option linter.unusedSimpArgs false
set_option linter.unusedVariables false
namespace Go.Proofs.Ytgfbjabjkjbnlaa
open Go.RowKit

theorem Mv.snapshot (B : Base) (g : Nat) (m : Mg) (t : Int) : Fn Try.prog B 19 #[.pointer (some ⟨g, 0, none⟩), .int .i64 t] (mgC g m) (fun u l => u = (match findT m.T t with | none => .tuple #[.int .i64 0, .int .i64 70] | some (_, x) => .tuple #[.int .i64 x.snap, .int .i64 0]) ∧ l = mgC g m) := by
  simp only [mgC]
  by_cases hf : findT m.T t = none
  · have hl := (findT_none hf).1
    rw [hf]
    refine Fn.enter2 21 Try.func19 rfl rfl (Nat.le_of_ble_eq_true rfl) (fun F => ?_)
    try simp only [List.cons_append, List.nil_append]
    refine T.seq ?_
    refine T.region ?_
    refine LW.q rfl (Qt.assign rfl) ?_
    refine LW.q rfl (Qt.assign rfl) ?_
    refine LW.done ?_
    refine T.seq ?_
    refine T.region ?_
    refine LW.q rfl (Qt.move rfl) ?_
    refine LW.q rfl (Qt.nilCheck rfl) ?_
    refine LW.q rfl (Qt.fieldAddr (off := 2) (by kernel_rfl) rfl) ?_
    first | refine LW.q rfl (Qt.load (by kernel_rfl) rfl rfl) ?_ | refine LW.q rfl (Qt.load (by kernel_rfl) rfl (map_at _ _ _ (by omega))) ?_ | refine LW.q rfl (Qt.load (by kernel_rfl) rfl (flat_cell0 _ _ _ (by intros; rfl) _ (by omega) (by rfl))) ?_ | refine LW.q rfl (Qt.load (by kernel_rfl) rfl (flat_cell _ _ _ (by intros; rfl) _ _ (by omega) (by rfl))) ?_ | refine LW.q rfl (Qt.load (by kernel_rfl) rfl (bytes_at _ _ (by omega))) ?_
    refine LW.q rfl (Qt.move rfl) ?_
    refine LW.q rfl (Qt.look2N Mv.okA rfl t rfl hl) ?_
    refine LW.q rfl (Qt.move rfl) ?_
    refine LW.q rfl (Qt.extr rfl rfl) ?_
    refine LW.q rfl (Qt.extr rfl rfl) ?_
    refine LW.e rfl (Ef.alloc [.int .i64 0, .map none] (by unfold zeroB; kernel_rfl) ?_)
    intro g6
    refine LW.e0 rfl (Ef.store [_, _] (by kernel_rfl) rfl rfl rfl rfl (by simp) ?_)
    try simp only [splice, List.length_cons, List.length_nil, List.drop_succ_cons, List.cons_append, List.take_succ_cons, List.take_zero, List.drop_zero, List.nil_append, List.append_nil]
    refine LW.q rfl (Qt.assign rfl) ?_
    refine LW.done ?_
    refine T.seq ?_
    refine T.seq ?_
    refine T.region ?_
    refine LW.q rfl (Qt.move rfl) ?_
    first | refine LW.q rfl (Qt.notP rfl) ?_ | refine LW.q rfl (Qt.notB rfl) ?_
    refine LW.done ?_
    first | refine T.condT rfl ?_ | refine T.condPT rfl (rfl) ?_ | refine T.condBT rfl (rfl) ?_
    refine T.seq ?_
    refine T.region ?_
    refine LW.q rfl (Qt.assign rfl) ?_
    refine LW.q rfl (Qt.assign rfl) ?_
    refine LW.done ?_
    refine T.ret ?_
    exact ⟨.inl rfl, _, _, res [_, _] rfl ⟨rvT rfl, rvT rfl, trivial⟩, ⟨rfl, rfl⟩, Sub.any⟩
  · obtain ⟨⟨i, x⟩, hx⟩ := Option.ne_none_iff_exists'.1 hf
    obtain ⟨hx1, hx2, hl⟩ := findT_some hx
    rw [hx]
    refine Fn.enter2 21 Try.func19 rfl rfl (Nat.le_of_ble_eq_true rfl) (fun F => ?_)
    try simp only [List.cons_append, List.nil_append]
    refine T.seq ?_
    refine T.region ?_
    refine LW.q rfl (Qt.assign rfl) ?_
    refine LW.q rfl (Qt.assign rfl) ?_
    refine LW.done ?_
    refine T.seq ?_
    refine T.region ?_
    refine LW.q rfl (Qt.move rfl) ?_
    refine LW.q rfl (Qt.nilCheck rfl) ?_
    refine LW.q rfl (Qt.fieldAddr (off := 2) (by kernel_rfl) rfl) ?_
    first | refine LW.q rfl (Qt.load (by kernel_rfl) rfl rfl) ?_ | refine LW.q rfl (Qt.load (by kernel_rfl) rfl (map_at _ _ _ (by omega))) ?_ | refine LW.q rfl (Qt.load (by kernel_rfl) rfl (flat_cell0 _ _ _ (by intros; rfl) _ (by omega) (by rfl))) ?_ | refine LW.q rfl (Qt.load (by kernel_rfl) rfl (flat_cell _ _ _ (by intros; rfl) _ _ (by omega) (by rfl))) ?_ | refine LW.q rfl (Qt.load (by kernel_rfl) rfl (bytes_at _ _ (by omega))) ?_
    refine LW.q rfl (Qt.move rfl) ?_
    refine LW.q rfl (Qt.look2S Mv.okA rfl t rfl hl) ?_
    refine LW.q rfl (Qt.move rfl) ?_
    refine LW.q rfl (Qt.extr rfl rfl) ?_
    refine LW.q rfl (Qt.extr rfl rfl) ?_
    refine LW.e rfl (Ef.alloc [.int .i64 0, .map none] (by unfold zeroB; kernel_rfl) ?_)
    intro g6
    refine LW.e0 rfl (Ef.store [_, _] (by kernel_rfl) rfl rfl rfl rfl (by simp) ?_)
    try simp only [splice, List.length_cons, List.length_nil, List.drop_succ_cons, List.cons_append, List.take_succ_cons, List.take_zero, List.drop_zero, List.nil_append, List.append_nil]
    refine LW.q rfl (Qt.assign rfl) ?_
    refine LW.done ?_
    refine T.seq ?_
    refine T.seq ?_
    refine T.region ?_
    refine LW.q rfl (Qt.move rfl) ?_
    first | refine LW.q rfl (Qt.notP rfl) ?_ | refine LW.q rfl (Qt.notB rfl) ?_
    refine LW.done ?_
    first | refine T.condF rfl ?_ | refine T.condPF rfl (rfl) ?_ | refine T.condBF rfl (rfl) ?_
    refine T.skip ?_
    refine T.seq ?_
    refine T.region ?_
    refine LW.q rfl (Qt.fieldAddr0 (by kernel_rfl) rfl) ?_
    first | refine LW.q rfl (Qt.load (by kernel_rfl) rfl rfl) ?_ | refine LW.q rfl (Qt.load (by kernel_rfl) rfl (map_at _ _ _ (by omega))) ?_ | refine LW.q rfl (Qt.load (by kernel_rfl) rfl (flat_cell0 _ _ _ (by intros; rfl) _ (by omega) (by rfl))) ?_ | refine LW.q rfl (Qt.load (by kernel_rfl) rfl (flat_cell _ _ _ (by intros; rfl) _ _ (by omega) (by rfl))) ?_ | refine LW.q rfl (Qt.load (by kernel_rfl) rfl (bytes_at _ _ (by omega))) ?_
    refine LW.q rfl (Qt.assign rfl) ?_
    refine LW.q rfl (Qt.assign rfl) ?_
    refine LW.done ?_
    refine T.ret ?_
    exact ⟨.inl rfl, _, _, res [_, _] rfl ⟨rvT rfl, rvT rfl, trivial⟩, ⟨rfl, rfl⟩, Sub.any⟩

abbrev bump (L : List (Str × Int)) (k : Str) : List (Str × Int) := putL L k (IntKind.i64.wrap ((lookL L k).getD 0 + 1))
def bumps (L : List (Str × Int)) (ks : List Str) : List (Str × Int) := ks.foldl bump L
def writeM (m : Mg) (t : Int) (ks : List Str) : Mg × Int := match findT m.T t with
  | none => (m, 70)
  | some (i, x) => ({ m with T := m.T.set i { x with ks := bumps x.ks ks } }, 0)
theorem set_txP {T : List Tx} {i : Nat} {x : Tx} (hi : T[i]? = some x) (L : List (Str × Int)) : (T.set i { x with ks := L }).map txP = T.map txP := by
  rw [List.map_set]
  apply List.ext_getElem?
  intro j
  rw [List.getElem?_set, List.getElem?_map]
  split
  · rename_i e; subst e
    rw [hi, if_pos (by simpa using (List.getElem?_eq_some_iff.1 hi).1)]; rfl
  · rfl
theorem bumps_snoc (L : List (Str × Int)) (ks : List Str) (k : Nat) (h : k < ks.length) : bump (bumps L (ks.take k)) ks[k] = bumps L (ks.take (k + 1)) := by
  unfold bumps
  rw [List.take_succ_eq_append_getElem h, List.foldl_append]
  rfl
theorem Mv.write (B : Base) (S : List Assn) (g : Nat) (m : Mg) (t : Int) (a : Option Addr) (n c : Nat) (ks : List Str) (hv : RdV B S (.slice a n c) (ks.map kT)) (hn : ks.length = n) (hn2 : n < 2 ^ 32) :
    Fn Try.prog B 11 #[.pointer (some ⟨g, 0, none⟩), .int .i64 t, .slice a n c] (mgB g m :: actA m :: wrA m :: ksA m.T :: S) (fun u l => u = .int .i64 (writeM m t ks).2 ∧ l = mgB g (writeM m t ks).1 :: actA (writeM m t ks).1 :: wrA (writeM m t ks).1 :: ksA (writeM m t ks).1.T :: S) := by
  by_cases hf : findT m.T t = none
  · have hl := (findT_none hf).1
    have he : writeM m t ks = (m, 70) := by unfold writeM; rw [hf]
    rw [he]
    refine Fn.enter3 34 Try.func11 rfl rfl (Nat.le_of_ble_eq_true rfl) (fun F => ?_)
    try simp only [List.cons_append, List.nil_append]
    refine T.seq ?_
    refine T.region ?_
    refine LW.q rfl (Qt.assign rfl) ?_
    refine LW.done ?_
    refine T.seq ?_
    refine T.region ?_
    refine LW.q rfl (Qt.move rfl) ?_
    refine LW.q rfl (Qt.nilCheck rfl) ?_
    refine LW.q rfl (Qt.fieldAddr (off := 2) (by kernel_rfl) rfl) ?_
    first | refine LW.q rfl (Qt.load (by kernel_rfl) rfl rfl) ?_ | refine LW.q rfl (Qt.load (by kernel_rfl) rfl (map_at _ _ _ (by omega))) ?_ | refine LW.q rfl (Qt.load (by kernel_rfl) rfl (flat_cell0 _ _ _ (by intros; rfl) _ (by omega) (by rfl))) ?_ | refine LW.q rfl (Qt.load (by kernel_rfl) rfl (flat_cell _ _ _ (by intros; rfl) _ _ (by omega) (by rfl))) ?_ | refine LW.q rfl (Qt.load (by kernel_rfl) rfl (bytes_at _ _ (by omega))) ?_
    refine LW.q rfl (Qt.move rfl) ?_
    refine LW.q rfl (Qt.look2N Mv.okA rfl t rfl hl) ?_
    refine LW.q rfl (Qt.move rfl) ?_
    refine LW.q rfl (Qt.extr rfl rfl) ?_
    refine LW.q rfl (Qt.extr rfl rfl) ?_
    refine LW.e rfl (Ef.alloc [.int .i64 0, .map none] (by unfold zeroB; kernel_rfl) ?_)
    intro g7
    refine LW.e0 rfl (Ef.store [_, _] (by kernel_rfl) rfl rfl rfl rfl (by simp) ?_)
    try simp only [splice, List.length_cons, List.length_nil, List.drop_succ_cons, List.cons_append, List.take_succ_cons, List.take_zero, List.drop_zero, List.nil_append, List.append_nil]
    refine LW.q rfl (Qt.assign rfl) ?_
    refine LW.done ?_
    refine T.seq ?_
    refine T.seq ?_
    refine T.region ?_
    refine LW.q rfl (Qt.move rfl) ?_
    first | refine LW.q rfl (Qt.notP rfl) ?_ | refine LW.q rfl (Qt.notB rfl) ?_
    refine LW.done ?_
    first | refine T.condT rfl ?_ | refine T.condPT rfl (rfl) ?_ | refine T.condBT rfl (rfl) ?_
    refine T.seq ?_
    refine T.region ?_
    refine LW.q rfl (Qt.assign rfl) ?_
    refine LW.done ?_
    refine T.ret ?_
    exact ⟨.inl rfl, _, _, res [_] rfl ⟨rvT rfl, trivial⟩, ⟨rfl, rfl⟩, Sub.any⟩
  · obtain ⟨⟨i, x⟩, hx⟩ := Option.ne_none_iff_exists'.1 hf
    obtain ⟨hx1, hx2, hl⟩ := findT_some hx
    have he : writeM m t ks = ({ m with T := m.T.set i { x with ks := bumps x.ks ks } }, 0) := by unfold writeM; rw [hx]
    rw [he]
    have hil := (List.getElem?_eq_some_iff.1 hx1).1
    refine Fn.enter3 34 Try.func11 rfl rfl (Nat.le_of_ble_eq_true rfl) (fun F => ?_)
    try simp only [List.cons_append, List.nil_append]
    refine T.seq ?_
    refine T.region ?_
    refine LW.q rfl (Qt.assign rfl) ?_
    refine LW.done ?_
    refine T.seq ?_
    refine T.region ?_
    refine LW.q rfl (Qt.move rfl) ?_
    refine LW.q rfl (Qt.nilCheck rfl) ?_
    refine LW.q rfl (Qt.fieldAddr (off := 2) (by kernel_rfl) rfl) ?_
    first | refine LW.q rfl (Qt.load (by kernel_rfl) rfl rfl) ?_ | refine LW.q rfl (Qt.load (by kernel_rfl) rfl (map_at _ _ _ (by omega))) ?_ | refine LW.q rfl (Qt.load (by kernel_rfl) rfl (flat_cell0 _ _ _ (by intros; rfl) _ (by omega) (by rfl))) ?_ | refine LW.q rfl (Qt.load (by kernel_rfl) rfl (flat_cell _ _ _ (by intros; rfl) _ _ (by omega) (by rfl))) ?_ | refine LW.q rfl (Qt.load (by kernel_rfl) rfl (bytes_at _ _ (by omega))) ?_
    refine LW.q rfl (Qt.move rfl) ?_
    refine LW.q rfl (Qt.look2S Mv.okA rfl t rfl hl) ?_
    refine LW.q rfl (Qt.move rfl) ?_
    refine LW.q rfl (Qt.extr rfl rfl) ?_
    refine LW.q rfl (Qt.extr rfl rfl) ?_
    refine LW.e rfl (Ef.alloc [.int .i64 0, .map none] (by unfold zeroB; kernel_rfl) ?_)
    intro g7
    refine LW.e0 rfl (Ef.store [_, _] (by kernel_rfl) rfl rfl rfl rfl (by simp) ?_)
    try simp only [splice, List.length_cons, List.length_nil, List.drop_succ_cons, List.cons_append, List.take_succ_cons, List.take_zero, List.drop_zero, List.nil_append, List.append_nil]
    refine LW.q rfl (Qt.assign rfl) ?_
    refine LW.done ?_
    refine T.seq ?_
    refine T.seq ?_
    refine T.region ?_
    refine LW.q rfl (Qt.move rfl) ?_
    first | refine LW.q rfl (Qt.notP rfl) ?_ | refine LW.q rfl (Qt.notB rfl) ?_
    refine LW.done ?_
    first | refine T.condF rfl ?_ | refine T.condPF rfl (rfl) ?_ | refine T.condBF rfl (rfl) ?_
    refine T.conv (fun w ho => Own.ks_take hx1 ho) ?_
    refine T.skip ?_
    refine T.seq ?_
    refine T.seq ?_
    refine T.region ?_
    refine LW.q rfl (Qt.move rfl) ?_
    refine LW.q rfl (Qt.len (e := 9) (sz := 1) (by kernel_rfl) rfl) ?_
    refine LW.q rfl (Qt.move rfl) ?_
    refine LW.done ?_
    refine T.block ?_
    refine T.loop (fun mz fz lz => ∃ (f0 : Fr) (k : Nat) (L : List (Str × Int)), (k ≤ n ∧ L = bumps x.ks (ks.take k)) ∧ mz = n - k ∧ fz = (upd (upd (upd (upd (upd f0 0 (.pointer (some ⟨g, 0, none⟩))) 7 (.pointer (some ⟨g7, 0, none⟩))) 22 (.slice a n c)) 23 (.int .i64 n)) 24 (.int .i64 k)) ∧ lz = mpA kT kZ x.gk L :: ksA (m.T.eraseIdx i) :: blk g7 [.int .i64 x.snap, .map (some x.gk)] 64 :: mgB g m :: actA m :: wrA m :: (S ++ F)) ?_ ?_
    · refine ⟨_, _, ⟨_, 0, x.ks, ⟨Nat.zero_le _, rfl⟩, rfl, (updS rfl (updS rfl (updS rfl (updS rfl (updS rfl rfl))))), rfl⟩, Sub.any⟩
    · skip
      rintro mz fz lz ⟨f0, k, L, ⟨hk, hL⟩, hmz, rfl, rfl⟩
      subst mz
      try simp only [List.cons_append, List.nil_append]
      refine T.seq ?_
      refine T.region ?_
      refine LW.q rfl (Qt.lss rfl rfl) ?_
      refine LW.done ?_
      refine T.seq ?_
      refine T.condP rfl (fun hlt => ?_) (fun hlt => ?_)
      · skip
        obtain ⟨b0, o0, rfl, hcell⟩ := hv.at (by omega)
        have hc1 := fun w ho => hcell k (by simp; omega) w ho
        simp only [List.getElem_map] at hc1
        obtain ⟨q, hq⟩ : ∃ q, q = ks[k] := ⟨_, rfl⟩
        rw [← hq] at hc1
        refine T.skip ?_
        refine T.seq ?_
        refine T.block ?_
        refine T.seq ?_
        refine T.region ?_
        refine LW.q rfl (Qt.index _ (e := 9) (sz := 1) (by kernel_rfl) rfl rfl rfl (by omega)) ?_
        refine LW.q rfl (Qt.loadW (v := kT q) (by kernel_rfl) rfl (fun w ho => hc1 w (ho.map Sub.any))) ?_
        refine LW.q rfl (Qt.assign rfl) ?_
        refine LW.done ?_
        refine T.region ?_
        refine LW.q rfl (Qt.fieldAddr (off := 1) (by kernel_rfl) rfl) ?_
        first | refine LW.q rfl (Qt.load (by kernel_rfl) rfl rfl) ?_ | refine LW.q rfl (Qt.load (by kernel_rfl) rfl (map_at _ _ _ (by omega))) ?_ | refine LW.q rfl (Qt.load (by kernel_rfl) rfl (flat_cell0 _ _ _ (by intros; rfl) _ (by omega) (by rfl))) ?_ | refine LW.q rfl (Qt.load (by kernel_rfl) rfl (flat_cell _ _ _ (by intros; rfl) _ _ (by omega) (by rfl))) ?_ | refine LW.q rfl (Qt.load (by kernel_rfl) rfl (bytes_at _ _ (by omega))) ?_
        refine LW.q rfl (Qt.move rfl) ?_
        refine LW.q rfl (Qt.look1 Mv.okK rfl q rfl 0 rfl) ?_
        refine LW.q rfl (Qt.add rfl rfl rfl) ?_
        refine LW.e0 rfl (Ef.mapUpdate Mv.okK rfl q rfl (IntKind.i64.wrap ((lookL L q).getD 0 + 1)) rfl ?_)
        try simp only [List.cons_append, List.nil_append]
        refine LW.done ?_
        refine T.region ?_
        refine LW.q rfl (Qt.add rfl rfl (wr64 (by omega) (by omega))) ?_
        refine LW.q rfl (Qt.move rfl) ?_
        refine LW.done ?_
        refine ⟨_, ?_, _, ⟨_, k + 1, bump L q, ⟨by omega, by rw [hL, hq]; exact bumps_snoc _ _ _ (by omega)⟩, rfl, (updS rfl (updS rfl (updS rfl (updS rfl (updS rfl rfl))))), rfl⟩, Sub.any⟩
        first | omega | (simp; omega)
      · skip
        obtain rfl : n = k := by omega
        rw [← hn, List.take_length] at hL
        subst hL
        refine T.conv (fun w ho => Own.ks_put (T := m.T) { x with ks := bumps x.ks ks } hil ho) ?_
        rw [show actA m = mpA kZ txV m.ga ((m.T.set i { x with ks := bumps x.ks ks }).map txP) by rw [set_txP hx1]]
        refine T.exit ?_
        refine T.seq ?_
        refine T.region ?_
        refine LW.q rfl (Qt.assign rfl) ?_
        refine LW.done ?_
        refine T.ret ?_
        exact ⟨.inl rfl, _, _, res [_] rfl ⟨rvT rfl, trivial⟩, ⟨rfl, rfl⟩, Sub.any⟩

/-- Has one of these keys been written behind a stamp? -/
def clashB (W : List (Str × Int)) (snap : Int) (ks : List (Str × Int)) : Bool := ks.any fun p => decide (snap < (lookL W p.1).getD 0)
theorem cut_lt {left : List (Str × Int)} {q : Str} {c : Int} (h : (q, c) ∈ left) : (cutL left q).length < left.length := by
  unfold cutL
  rw [← List.countP_eq_length_filter]
  refine Nat.lt_of_le_of_ne List.countP_le_length fun e => ?_
  have := List.countP_eq_length.1 e _ h
  simp at this
theorem cut_done {W left ks : List (Str × Int)} {q : Str} {s : Int} (hw : ¬ s < (lookL W q).getD 0) (h : ∀ p ∈ ks, p ∉ left → ¬ s < (lookL W p.1).getD 0) : ∀ p ∈ ks, p ∉ cutL left q → ¬ s < (lookL W p.1).getD 0 := fun p hp hn => by
  by_cases e : p.1 = q
  · rw [e]; exact hw
  · exact h p hp fun hm => hn (List.mem_filter.2 ⟨hm, by simpa using e⟩)
theorem Mv.clash (B : Base) (g : Nat) (m : Mg) (i : Nat) (x : Tx) (hi : m.T[i]? = some x) : Fn Try.prog B 33 #[.pointer (some ⟨g, 0, none⟩), txV (x.snap, x.gk)] (mgC g m) (fun u l => u = .bool (clashB m.W x.snap x.ks) ∧ l = mgC g m) := by
 have hil := (List.getElem?_eq_some_iff.1 hi).1
 simp only [mgC]
 refine Fn.enter2 22 Try.func33 rfl rfl (Nat.le_of_ble_eq_true rfl) (fun F => ?_)
 try simp only [List.cons_append, List.nil_append]
 refine T.seq ?_
 refine T.region ?_
 refine LW.e rfl (Ef.box [_, _] rfl rfl ?_)
 intro g3
 refine LW.q rfl (Qt.assign rfl) ?_
 refine LW.done ?_
 refine T.seq ?_
 refine T.seq ?_
 refine T.region ?_
 refine LW.q rfl (Qt.fieldAddr (off := 1) (by kernel_rfl) rfl) ?_
 first | refine LW.q rfl (Qt.load (by kernel_rfl) rfl rfl) ?_ | refine LW.q rfl (Qt.load (by kernel_rfl) rfl (map_at _ _ _ (by omega))) ?_ | refine LW.q rfl (Qt.load (by kernel_rfl) rfl (flat_cell0 _ _ _ (by intros; rfl) _ (by omega) (by rfl))) ?_ | refine LW.q rfl (Qt.load (by kernel_rfl) rfl (flat_cell _ _ _ (by intros; rfl) _ _ (by omega) (by rfl))) ?_ | refine LW.q rfl (Qt.load (by kernel_rfl) rfl (bytes_at _ _ (by omega))) ?_
 refine LW.conv (fun w ho => Own.ks_take hi ho) ?_
 refine LW.e rfl (Ef.range Try.underlying62 rfl ?_)
 rintro gi
 try simp only [List.cons_append, List.nil_append]
 refine LW.done ?_
 refine T.block ?_
 refine T.loop (fun mz fz lz => ∃ (f0 : Fr) (left : List (Str × Int)), ((∀ p ∈ left, p ∈ x.ks) ∧ (∀ p ∈ x.ks, p ∉ left → ¬ x.snap < (lookL m.W p.1).getD 0)) ∧ mz = left.length ∧ fz = (upd (upd (upd f0 0 (.pointer (some ⟨g, 0, none⟩))) 3 (.pointer (some ⟨g3, 0, none⟩))) 8 (.pointer (some ⟨gi, 0, none⟩))) ∧ lz = rgA kT kZ gi x.gk x.ks left :: ksA (m.T.eraseIdx i) :: blk g3 [.int .i64 x.snap, .map (some x.gk)] 64 :: mgB g m :: actA m :: wrA m :: F) ?_ ?_
 · refine ⟨_, _, ⟨_, x.ks, ⟨fun _ h => h, fun p h1 h2 => absurd h1 h2⟩, rfl, (updS rfl (updS rfl (updS rfl rfl))), rfl⟩, Sub.any⟩
 ·
  rintro mz fz lz ⟨f0, left, ⟨hsub, hdone⟩, hmz, rfl, rfl⟩
  subst mz
  try simp only [List.cons_append, List.nil_append]
  by_cases hl : left = []
  ·
   subst hl
   refine T.seq ?_
   refine T.region ?_
   refine LW.e rfl (Ef.nextN rfl rfl ?_)
   try simp only [List.cons_append, List.nil_append]
   refine LW.conv (fun w ho => Own.ks_back hi ho) ?_
   refine LW.q rfl (Qt.extr rfl rfl) ?_
   refine LW.done ?_
   refine T.seq ?_
   first | refine T.condF rfl ?_ | refine T.condPF rfl (rfl) ?_ | refine T.condBF rfl (rfl) ?_
   have hc : clashB m.W x.snap x.ks = false := by
    unfold clashB
    rw [List.any_eq_false]
    intro p hp
    have := hdone p hp (by simp)
    simpa using this
   refine T.exit ?_
   refine T.seq ?_
   refine T.region ?_
   refine LW.q rfl (Qt.assign rfl) ?_
   refine LW.done ?_
   refine T.ret ?_
   exact ⟨.inl rfl, _, _, res [_] rfl ⟨rvT rfl, trivial⟩, ⟨by rw [hc]; rfl, rfl⟩, Sub.any⟩
  ·
   refine T.seq ?_
   refine T.region ?_
   refine LW.e rfl (Ef.nextS (left := left) strV_inj rfl rfl hl ?_)
   rintro ⟨q, cq⟩ hq
   try simp only [List.cons_append, List.nil_append]
   refine LW.q rfl (Qt.extr rfl rfl) ?_
   refine LW.done ?_
   refine T.seq ?_
   first | refine T.condT rfl ?_ | refine T.condPT rfl (rfl) ?_ | refine T.condBT rfl (rfl) ?_
   refine T.skip ?_
   refine T.block ?_
   refine T.seq ?_
   refine T.region ?_
   refine LW.q rfl (Qt.entry rfl) ?_
   refine LW.q rfl (Qt.extr rfl rfl) ?_
   refine LW.q rfl (Qt.assign rfl) ?_
   refine LW.done ?_
   refine T.seq ?_
   refine T.drawAll 9 (by kernel_rfl) (Nat.le_of_ble_eq_true rfl) (by kernel_rfl) ?_
   refine RW.q 0 rfl rfl (by kernel_rfl) (Sub.refl _) (Qt.move rfl) ?_
   refine RW.q 1 rfl rfl (by kernel_rfl) (Sub.refl _) (Qt.nilCheck rfl) ?_
   refine RW.q 2 rfl rfl (by kernel_rfl) (Sub.refl _) (Qt.fieldAddr (off := 3) (by kernel_rfl) rfl) ?_
   first | refine RW.q 3 rfl rfl (by kernel_rfl) (Sub.refl _) (Qt.load (by kernel_rfl) rfl rfl) ?_ | refine RW.q 3 rfl rfl (by kernel_rfl) (Sub.refl _) (Qt.load (by kernel_rfl) rfl (map_at _ _ _ (by omega))) ?_ | refine RW.q 3 rfl rfl (by kernel_rfl) (Sub.refl _) (Qt.load (by kernel_rfl) rfl (flat_cell0 _ _ _ (by intros; rfl) _ (by omega) (by rfl))) ?_ | refine RW.q 3 rfl rfl (by kernel_rfl) (Sub.refl _) (Qt.load (by kernel_rfl) rfl (flat_cell _ _ _ (by intros; rfl) _ _ (by omega) (by rfl))) ?_ | refine RW.q 3 rfl rfl (by kernel_rfl) (Sub.refl _) (Qt.load (by kernel_rfl) rfl (bytes_at _ _ (by omega))) ?_
   refine RW.q 4 rfl rfl (by kernel_rfl) (Sub.refl _) (Qt.move rfl) ?_
   refine RW.q 5 rfl rfl (by kernel_rfl) (Sub.refl _) (Qt.look1 Mv.okW rfl q rfl 0 rfl) ?_
   refine RW.q 6 rfl rfl (by kernel_rfl) (Sub.refl _) (Qt.fieldAddr0 (by kernel_rfl) rfl) ?_
   first | refine RW.q 7 rfl rfl (by kernel_rfl) (Sub.refl _) (Qt.load (by kernel_rfl) rfl rfl) ?_ | refine RW.q 7 rfl rfl (by kernel_rfl) (Sub.refl _) (Qt.load (by kernel_rfl) rfl (map_at _ _ _ (by omega))) ?_ | refine RW.q 7 rfl rfl (by kernel_rfl) (Sub.refl _) (Qt.load (by kernel_rfl) rfl (flat_cell0 _ _ _ (by intros; rfl) _ (by omega) (by rfl))) ?_ | refine RW.q 7 rfl rfl (by kernel_rfl) (Sub.refl _) (Qt.load (by kernel_rfl) rfl (flat_cell _ _ _ (by intros; rfl) _ _ (by omega) (by rfl))) ?_ | refine RW.q 7 rfl rfl (by kernel_rfl) (Sub.refl _) (Qt.load (by kernel_rfl) rfl (bytes_at _ _ (by omega))) ?_
   refine RW.q 8 rfl rfl (by kernel_rfl) (Sub.refl _) (Qt.gtr rfl rfl) ?_
   refine RW.done (by rfl) ?_
   simp only [List.drop_succ_cons, List.drop_zero, List.drop_nil]
   refine LW.done ?_
   refine T.condP rfl (fun hw => ?_) (fun hw => ?_)
   ·
    refine T.conv (fun w ho => Own.ks_back hi ho) ?_
    have hc : clashB m.W x.snap x.ks = true := by
     unfold clashB
     rw [List.any_eq_true]
     exact ⟨(q, cq), hsub _ hq, by simpa using hw⟩
    refine T.seq ?_
    refine T.region ?_
    refine LW.q rfl (Qt.assign rfl) ?_
    refine LW.done ?_
    refine T.ret ?_
    exact ⟨.inl rfl, _, _, res [_] rfl ⟨rvT rfl, trivial⟩, ⟨by rw [hc]; rfl, rfl⟩, Sub.any⟩
   ·
    have hlen := cut_lt hq
    refine T.skip ?_
    refine ⟨_, ?_, _, ⟨_, cutL left q, ⟨fun p hp => hsub p (List.mem_filter.1 hp).1, cut_done hw hdone⟩, rfl, (updS rfl (updS rfl (updS rfl rfl))), rfl⟩, Sub.any⟩
    first | omega | (simp; omega)
end Go.Proofs.Ytgfbjabjkjbnlaa
