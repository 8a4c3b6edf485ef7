/- The texts SlH Law Law2 StRd SlG BaA BbA BcA BcB BcC, one behind the other: what the law leans on. Conditions: as each theorem says. -/
import Derived.Test.YtopbkdpbljebgaaZBindTurns1
import Derived.Great.BuildSlice
import Derived.Deep.Slices
/- Slice literals of one-cell elements; '[]byte("..")' of a constant, whose row bears the run-time's mark. Conditions: of each rule its own. -/
set_option linter.unusedSimpArgs false
set_option linter.unusedVariables false
namespace Go.Proofs.Ytopbkdpbljebgaa
open Go.RowKit
section
variable {P : Program} {B : Base} {n : Nat} {S l r : List Assn} {f : Fr} {K : Value → List Assn → Prop} {Φ : Post}
variable {d : Option Tmp} {ty : TypeId} {pos : String} {af : Array Edge} {gd : Option (Nat × Bool)}

/-- A block that bears the run-time's mark. -/
def fblk (g : Nat) (C : List Value) (t : TypeId) (fr : Nat × Nat) : Assn := fun h => h g = some (.cells C.toArray t fr)
instance (g : Nat) (l : List Assn) (C : List Value) (t : TypeId) (fr : Nat × Nat) : CellsAt g (fblk g C t fr :: l) C := ⟨fun _ ⟨_, _, _, a, _, e, _⟩ => ⟨[], t, fr, by rw [List.append_nil]; exact a.p _ _ e⟩⟩
class FrzB (g : Nat) (l : List Assn) (r : outParam (List Assn)) : Prop where
  cut : ∃ C t m, (∀ h, Has l h → Has (blk g C t :: m) h) ∧ ∀ h, Has (fblk g C t (C.length, C.length + 1) :: m) h → Has r h
instance (g : Nat) (C : List Value) (t : TypeId) (l : List Assn) : FrzB g (blk g C t :: l) (fblk g C t (C.length, C.length + 1) :: l) := ⟨C, t, l, fun _ H => H, fun _ H => H⟩
instance (g : Nat) (A : Assn) (l r : List Assn) [k : FrzB g l r] : FrzB g (A :: l) (A :: r) := ⟨by
  obtain ⟨C, t, m, h1, h2⟩ := k.cut
  exact ⟨C, t, A :: m, fun h H => Has.swap (Has.cons_imp h1 H), fun h H => Has.cons_imp h2 (Has.swap H)⟩⟩
/-- A slice literal of one-cell elements, all of them told. -/
theorem Ef.lit {t e len : Nat} {parts : Array (Nat × Operand)} (vs : List Value) (hk : sliceB P t e 1 = true) (hz : ((P.info? e).bind (·.zero)).isSome = true) (hp : parts.toList.map (fun p => (p.1, ev n f p.2)) = (vs.zipIdx 0).map fun x => (x.2, some x.1)) (h1 : ∀ v ∈ vs, v.cells = #[v]) (hl : vs.length = len) (h0 : 0 < len) (h24 : len ≤ 16777216)
    (h : ∀ g, K (.slice (some ⟨g, 0, none⟩) len len) (blk g vs e :: l)) : Ef P B n ⟨d, .buildSlice t len parts, ty, pos, af, gd⟩ f l K := ⟨fun w next Q ho hk' => by
  obtain ⟨q1, q2⟩ := sliceB_spec hk
  obtain ⟨i, hi, his⟩ := info_of_size q2
  rw [hi] at hz
  obtain ⟨z, hzz⟩ := Option.isSome_iff_exists.1 hz
  have hpe : (parts.map fun p => (p.1, evu n f p.2)).toList = (vs.zipIdx 0).map fun x => (x.2, x.1) := by
    rw [Array.toList_map]
    have e := congrArg (List.map (fun p : Nat × Option Value => (p.1, p.2.getD undef))) hp
    simp only [List.map_map, Function.comp_def, Option.getD_some] at e
    exact e
  have hr := run_buildSlice (P := P) w t e len (parts.map fun p => (p.1, evu n f p.2)) vs.toArray i z q1 hi (by simpa using hzz) (by rw [his]; omega) (by rw [his]; omega) (by rw [hpe, his]; exact Great.fill_flat _ _ h1 (by simp [hl]))
  unfold Oper.wp execOp
  simp only [eval_act', Sem.run_bind, hr, Sem.run_pure, Result.andThen_ok]
  exact hk' _ _ _ (h _) (ho.alloc vs e)⟩
end
end Go.Proofs.Ytopbkdpbljebgaa

/- The frame of a law's proof: what the walk owes, and how the row follows; arguments opened as lists. Conditions: none. -/
set_option linter.unusedSimpArgs false
set_option linter.unusedVariables false
namespace Go.Proofs.Ytopbkdpbljebgaa
open Go.ChangeShapes Go.WideShapes Go.ChangeAt Go.RowKit

theorem Try.own : ownKnob Try.prog.godebug = none := by kernel_rfl
theorem Try.laidOut : laidOutB Try.prog = true := by kernel_rfl

section
variable {H : Type} {enc : TypeId × Value → H} {P : Program}

theorem trodAll_stays (hl : laidOutB P = true) {W W' : World} (hb : Below W.heap.size W W') : ∀ (ts : List TypeId) (vs : List Value) (ds : List (DataW H)) (ps : List MemPlace), (∀ t ∈ ts, P.readableRec t = true ∧ t < P.types.size) →
    (∀ x ∈ ps, x.block < W.heap.size) → DataW.TrodAll enc P W 0 (fun _ => true) true ts vs ds ps → DataW.TrodAll enc P W' 0 (fun b => decide (b < W.heap.size)) true ts vs ds ps
  | [], [], [], ps, _, _, h => h
  | t :: ts, v :: vs, d :: ds, ps, hr, hlt, h => by
    obtain ⟨p, q, h1, h2, rfl⟩ := h
    refine ⟨p, q, Below.trod hl (hr t (by simp)).1 (hr t (by simp)).2 h1 hb (fun x hx => hlt x (by simp [hx])), trodAll_stays hl hb ts vs ds q (fun t ht => hr t (by simp [ht])) (fun x hx => hlt x (by simp [hx])) h2, rfl⟩
  | [], [], _ :: _, _, _, _, h => h
  | [], _ :: _, _, _, _, _, h => h
  | _ :: _, [], _, _, _, _, h => h
  | _ :: _, _ :: _, [], _, _, _, h => h

/-- What a law's row asks behind the call, out of what the walk gives. -/
theorem post_law {f : Func} {s : ChangeSpec} {W W' : World} {args : Array Value} {ds gs : List (DataW H)} {before : List MemPlace} (hl : laidOutB P = true)
    (hW : DataW.Whole enc P f.params.toList s.vars false W args.toList ds gs before) (hvars : s.vars = []) (hres : s.fn H (ds ++ gs) = { results := [.lit (.bool true)], args := ds })
    (tb : TypeId) (htb : P.underlying tb = some .bool) (hrt : f.resultTypes = #[tb]) (hr : ∀ t ∈ f.params.toList, P.readableRec t = true ∧ t < P.types.size) (hb : Below W.heap.size W W') :
    s.post enc P f false true false false W args (.bool true) W' := by
  have hW' := hW
  obtain ⟨p, q, hA, hV, rfl, hfz, hnd⟩ := hW
  rw [hvars] at hV
  obtain ⟨rfl, rfl⟩ := trodVars_none hV
  have hlt : ∀ x ∈ p, x.block < W.heap.size := fun x hx => by simpa using hW'.lt x (by simp [hx])
  refine ⟨ds, [], p ++ [], [], p, [], hW', ?_, ?_, ?_, hb.frame _, fun h => by cases h⟩
  · rw [hres, hrt]
    exact trodAll_cons_mk (shut_bool htb _) trodAll_mk0
  · rw [hres]
    exact trodAll_stays hl hb _ _ _ _ hr hlt hA
  · rw [hres, hvars]
    rfl
end

/-! ### Arguments as lists -/
section
variable {H : Type} {enc : TypeId × Value → H} {P : Program} {W : World}

abbrev Tr (enc : TypeId × Value → H) (P : Program) (W : World) (fuel : Nat) (t : TypeId) (cs : List Value) : Option (DataW H × List MemPlace) := DataW.trod enc P W 0 (fun _ => true) true fuel t cs

/-- A slice in memory whose elements, of so many cells, stand to the list's in the relation R. -/
def SliceAt (W : World) (sz : Nat) {α : Type} (R : List Value → α → Prop) (v : Value) (l : List α) : Prop :=
  (v = .slice none 0 0 ∧ l = []) ∨ ∃ a cap, v = .slice (some a) l.length cap ∧ l.length ≤ cap ∧ cap ≤ maxLen ∧
    ∀ i (hi : i < l.length), ∃ cells b o, a = ⟨b, o, none⟩ ∧ b < W.heap.size ∧ cells.length = sz ∧ W.rangeAt b (o + i * sz) cells ∧ R cells l[i]

theorem choose_list {α : Type} {n : Nat} {Q : Nat → α → Prop} (h : ∀ i, i < n → ∃ a, Q i a) : ∃ l : List α, l.length = n ∧ ∀ i (hi : i < l.length), Q i l[i] := by
  induction n with
  | zero => exact ⟨[], rfl, fun i hi => by simp at hi⟩
  | succ n ih =>
    obtain ⟨l, hl, h2⟩ := ih (fun i hi => h i (by omega))
    obtain ⟨a, ha⟩ := h n (by omega)
    refine ⟨l ++ [a], by simp [hl], fun i hi => ?_⟩
    by_cases hin : i < l.length
    · rw [List.getElem_append_left hin]; exact h2 i hin
    · have : i = n := by simp at hi; omega
      subst this
      simp only [← hl, List.getElem_concat_length]; rw [hl]; exact ha

theorem map_sum_le {α β : Type} (f : α → Nat) (g : β → Nat) : ∀ (l : List α) (D : List β), l.length = D.length → (∀ i (h1 : i < l.length) (h2 : i < D.length), f l[i] ≤ g D[i]) → (l.map f).sum ≤ (D.map g).sum
  | [], [], _, _ => by simp
  | x :: l, y :: D, hl, h => by
    have h0 := h 0 (by simp) (by simp)
    have := map_sum_le f g l D (by simpa using hl) (fun i h1 h2 => by have h3 := h (i + 1) (by simpa using h1) (by simpa using h2); simp only [List.getElem_cons_succ] at h3; exact h3)
    simp only [List.map_cons, List.sum_cons]
    simp only [List.getElem_cons_zero] at h0
    omega
  | [], _ :: _, hl, _ => by simp at hl
  | _ :: _, [], hl, _ => by simp at hl

theorem bulkAll_sum (l : List (DataW H)) : Rows.uptoBulkAll l = (l.map Rows.uptoBulk).sum := by
  induction l with
  | nil => rfl
  | cons d l ih => simp [Rows.uptoBulkAll, ih]

/-- A slice argument: each element read by what reads its type. -/
theorem open_slice_R {t e : TypeId} {sz fuel : Nat} {cs : List Value} {x : DataW H × List MemPlace} {α : Type} {R : List Value → α → Prop} {B : α → Nat} (ht : P.underlying t = some (.slice e)) (hc : P.cellsOf e = sz) (hsz : 0 < sz)
    (hR : ∀ n cs y, Tr enc P W n e cs = some y → ∃ a, R cs a ∧ B a ≤ Rows.uptoBulk y.1) (h : Tr enc P W fuel t cs = some x) :
    ∃ v l, cs = [v] ∧ SliceAt W sz R v l ∧ (l.map B).sum + 1 ≤ Rows.uptoBulk x.1 ∧ l.length + 1 ≤ Rows.uptoBulk x.1 := by
  subst hc
  rcases Deep.open_slice ht h with ⟨rfl, rfl⟩ | ⟨a, len, cap, m, n, D, Pl, rfl, hb, hl, hm, hmm, rfl, hx⟩
  · exact ⟨_, [], rfl, .inl ⟨rfl, rfl⟩, by simp [Rows.uptoBulk], by simp [Rows.uptoBulk]⟩
  · simp only [if_true] at hmm
    subst hmm
    obtain ⟨l, hll, hli⟩ := choose_list (n := len) (Q := fun i (y : α) => ∃ cells, W.cells? 0 (a.add (i * P.cellsOf e)) (P.cellsOf e) = some cells ∧ R cells y ∧ B y ≤ Rows.uptoBulk (D i)) (fun i hi => by
      obtain ⟨cs', h1, h2⟩ := hx i (by omega)
      obtain ⟨y, hy, hB⟩ := hR n cs' _ h2
      exact ⟨y, cs', h1, hy, hB⟩)
    refine ⟨_, l, rfl, .inr ⟨a, m, by rw [hll], by omega, hm, fun i hi => ?_⟩, ?_, ?_⟩
    · obtain ⟨cells, h1, h2, _⟩ := hli i hi
      obtain ⟨_, h4, h5⟩ := World.cells?_some h1
      have hsp : a.spot = none := by
        have h0 := hx 0 (by omega)
        obtain ⟨cs', g1, _⟩ := h0
        obtain ⟨_, g4, g5⟩ := World.cells?_some g1
        have := g5 0 hsz
        simp only [Nat.zero_mul] at this
        have hadd : (a.add 0).add 0 = a := by simp [Addr.add]
        rw [hadd, List.getElem?_eq_getElem (by omega)] at this
        unfold World.cell? at this
        cases hh : W.heap[a.block]? with
        | none => simp [hh] at this
        | some o =>
          cases o <;> simp [hh] at this
          have hq := this.1
          cases hs : a.spot with
          | none => rfl
          | some s => simp [hs] at hq
      obtain ⟨b, o, sp⟩ := a
      simp only at hsp
      subst hsp
      have hcell : W.rangeAt b (o + i * P.cellsOf e) cells := fun j v hj => by
        have hjl : j < P.cellsOf e := by have := (List.getElem?_eq_some_iff.1 hj).1; omega
        have := h5 j hjl
        rw [Addr.add_mid, Addr.add_mid] at this
        rw [this]; exact hj
      have hlt : b < W.heap.size := World.block_lt_of_cell? W _ (hcell 0 _ (List.getElem?_eq_getElem (by omega)))
      exact ⟨cells, b, o, rfl, hlt, h4, hcell, h2⟩
    · have := map_sum_le B Rows.uptoBulk l ((List.range len).map D) (by simp [hll]) (fun i h1 h2 => by
        obtain ⟨_, _, _, h3⟩ := hli i h1
        simpa using h3)
      simp only [Rows.uptoBulk, bulkAll_sum]
      omega
    · simp only [Rows.uptoBulk]
      have h1 : l.length ≤ Rows.uptoBulkAll ((List.range len).map D) := by
        rw [bulkAll_sum, hll]
        have : ∀ L : List Nat, L.length ≤ ((L.map D).map Rows.uptoBulk).sum := by
          intro L
          induction L with
          | nil => simp
          | cons a L ih =>
            simp only [List.map_cons, List.sum_cons, List.length_cons]
            have : 1 ≤ Rows.uptoBulk (D a) := by
              cases D a with
              | lit l => cases l <;> simp [Rows.uptoBulk]
              | _ => simp [Rows.uptoBulk]
            omega
        simpa using this (List.range len)
      omega

/-- A struct's field, by its type's number and its place. -/
theorem field_of {fs : Array Field} {n : Nat} {cs : List Value} {xs : List (DataW H × List MemPlace)} (hf : ∀ (i : Nat) (f : Field), fs[i]? = some f → Tr enc P W n f.type ((cs.drop f.offset).take (P.cellsOf f.type)) = xs[i]?)
    (i t off c : Nat) (h : (fs[i]?).map (fun f => (f.type, f.offset)) = some (t, off)) (hc : P.cellsOf t = c) : Tr enc P W n t ((cs.drop off).take c) = xs[i]? := by
  cases hq : fs[i]? with
  | none => simp [hq] at h
  | some f =>
    simp only [hq, Option.map_some, Option.some.injEq, Prod.mk.injEq] at h
    have := hf i f hq
    rw [h.1, h.2, hc] at this
    exact this

theorem read_i64 {e : TypeId} (he : P.underlying e = some (.int .i64)) (n : Nat) (cs : List Value) (y : DataW H × List MemPlace) (h : Tr enc P W n e cs = some y) : ∃ a : Int, (cs = [.int .i64 a] ∧ -9223372036854775808 ≤ a ∧ a ≤ 9223372036854775807) ∧ 1 ≤ Rows.uptoBulk y.1 := by
  obtain ⟨k, rfl, rfl, hw⟩ := DataW.trod_int he h
  exact ⟨k, ⟨rfl, by simpa [Lit.wf, IntKind.min, IntKind.max, IntKind.signed, IntKind.bits] using hw⟩, by simp [Rows.uptoBulk]⟩

/-- A slice of one-cell elements, in Lib's word. -/
theorem SliceAt.reads {α : Type} {R : List Value → α → Prop} {v : Value} {l : List α} (f : α → Value) (hf : ∀ cs a, R cs a → cs = [f a]) (h : SliceAt W 1 R v l) : ∃ fp, Reads W v (l.map f) fp ∧ ∀ x ∈ fp, x < W.heap.size := by
  rcases h with ⟨rfl, rfl⟩ | ⟨a, cap, rfl, hl, hm, hi⟩
  · exact ⟨[], Reads.nil W, by simp⟩
  · by_cases h0 : l = []
    · subst h0; exact ⟨[], ⟨_, cap, rfl, .inl rfl⟩, by simp⟩
    · have hp : 0 < l.length := List.length_pos_iff.2 h0
      obtain ⟨cells, b, o, ha, hb, hlen, hr, hR⟩ := hi 0 hp
      subst ha
      refine ⟨[b], ⟨_, cap, by simp, .inr ⟨b, o, rfl, fun j v hv => ?_, by simp⟩⟩, by simpa using hb⟩
      have hj : j < l.length := by have := (List.getElem?_eq_some_iff.1 hv).1; simpa using this
      obtain ⟨cells', b', o', ha', _, hlen', hr', hR'⟩ := hi j hj
      injection ha' with e1 e2
      subst e1; subst e2
      have hc := hf _ _ hR'
      subst hc
      have := hr' 0 (f l[j]) rfl
      simp only [Nat.mul_one, Nat.add_zero] at this
      rw [this]
      simp only [List.getElem?_map, List.getElem?_eq_getElem hj, Option.map_some] at hv
      exact hv
end

theorem Try.upto_bound {H : Type} {l : List (DataW H)} (hk : Rows.uptoSmall H l = true) : Rows.uptoBulkAll l ≤ 1048576 := of_decide_eq_true hk
theorem bulk_three {H : Type} (a b c : DataW H) : Rows.uptoBulkAll [a, b, c] = Rows.uptoBulk a + Rows.uptoBulk b + Rows.uptoBulk c := by simp [Rows.uptoBulkAll]; omega
end Go.Proofs.Ytopbkdpbljebgaa

/- From contracts over assertions to what a law's row owes; arguments that are only read. Conditions: none. -/
set_option linter.unusedSimpArgs false
set_option linter.unusedVariables false
namespace Go.Proofs.Ytopbkdpbljebgaa
open Go.RowKit

def baseOf (W : World) : Base := ⟨W.os, W.tape, W.output, World.piece W⟩
theorem own_base (W : World) : Own (baseOf W) W [] := ⟨rfl, rfl, rfl, Piece.le_refl _, fun _ => none, ⟨fun _ => .inl rfl⟩, ⟨fun _ _ e => by cases e⟩, trivial⟩
theorem Own.keeps {W W' : World} {l : List Assn} (h : Own (baseOf W) W' l) : Kept [] W W' := by
  have hb : ∀ k o, W.heap[k]? = some o → W'.heap[k]? = some o := fun k o e => h.ro.p k o e
  refine ⟨h.os, h.tape, h.output, ?_, fun k hk _ => ?_⟩
  · rcases Nat.eq_zero_or_pos W.heap.size with h0 | h0
    · omega
    · have := lt_of_block (hb (W.heap.size - 1) _ (Array.getElem?_eq_getElem (by omega)))
      omega
  · rw [hb k _ (Array.getElem?_eq_getElem hk), Array.getElem?_eq_getElem hk]
theorem Fn.law {P : Program} {W : World} {g : FuncId} {args : Array Value} (h : Fn P (baseOf W) g args [] (fun v l => v = .bool true ∧ l = [])) : Calls P g args W fun e W' => e = .returned (.bool true) ∧ Kept [] W W' := by
  refine (h.run W [] (own_base W)).mono ?_
  rintro e w' ⟨v, l, rfl, ⟨rfl, rfl⟩, ho⟩
  exact ⟨rfl, ho.keeps⟩

theorem range_cell {W : World} {b o j : Nat} {v : Value} (h : W.cell? ⟨b, o + j, none⟩ = some v) : ∃ c t fr, W.heap[b]? = some (.cells c t fr) ∧ c[o + j]? = some v := by
  unfold World.cell? at h
  split at h
  · rename_i c e fr hb
    exact ⟨c, e, fr, hb, by simpa using h⟩
  · cases h
theorem roc_of {W : World} {b : Nat} {c : Array Value} {t : TypeId} {fr : Nat × Nat} (h : W.heap[b]? = some (.cells c t fr)) : ROc (baseOf W) b c.toList := ⟨[], t, fr, by simpa [baseOf, World.piece] using h⟩
/-- The elements of a slice, from what the row's reading gives. -/
theorem SliceAt.ro {α : Type} {W : World} {sz : Nat} {R : List Value → α → Prop} {v : Value} {l : List α} (h : SliceAt W sz R v l) (hsz : 0 < sz) : ∃ a cap, v = .slice a l.length cap ∧ (l = [] ∨ ∃ b o C, a = some ⟨b, o, none⟩ ∧ ROc (baseOf W) b C ∧ ∀ i (hi : i < l.length), ∃ cells, rdl C (o + i * sz) cells ∧ R cells l[i]) := by
  rcases h with ⟨rfl, rfl⟩ | ⟨a, cap, rfl, hl, hm, hi⟩
  · exact ⟨none, 0, rfl, .inl rfl⟩
  · refine ⟨some a, cap, rfl, ?_⟩
    by_cases h0 : l = []
    · exact .inl h0
    · right
      have hp : 0 < l.length := List.length_pos_iff.2 h0
      obtain ⟨cells, b, o, rfl, hb, hlen, hr, hR⟩ := hi 0 hp
      obtain ⟨c, t, fr, hbb, _⟩ := range_cell (hr 0 _ (List.getElem?_eq_getElem (by omega)))
      refine ⟨b, o, c.toList, rfl, roc_of hbb, fun i hil => ?_⟩
      obtain ⟨cells', b', o', e, _, hlen', hr', hR'⟩ := hi i hil
      injection e with e1 e2
      subst e1; subst e2
      refine ⟨cells', rdl_of fun j u hu => ?_, hR'⟩
      obtain ⟨c', t', fr', hb', hc'⟩ := range_cell (hr' j u hu)
      rw [hbb] at hb'
      injection hb' with e1
      injection e1 with e1
      subst e1
      simpa using hc'
end Go.Proofs.Ytopbkdpbljebgaa

/- How texts and lists of texts read. Conditions: none. -/
set_option linter.unusedSimpArgs false
set_option linter.unusedVariables false
namespace Go.Proofs.Ytopbkdpbljebgaa
open Go.ChangeShapes Go.WideShapes Go.ChangeAt Go.RowKit

section
variable {H : Type} {enc : TypeId × Value → H} {P : Program} {W : World}
theorem read_str {e : TypeId} (he : P.underlying e = some .string) (n : Nat) (cs : List Value) (y : DataW H × List MemPlace) (h : Tr enc P W n e cs = some y) : ∃ a : List UInt8, cs = [.string (strOf a)] ∧ a.length + 1 ≤ Rows.uptoBulk y.1 := by
  obtain ⟨s, h1, h2, _⟩ := DataW.trod_string he h
  refine ⟨s.data.toList, ?_, ?_⟩
  · rw [h1]; rfl
  · rw [h2]; simp [Rows.uptoBulk]
end
end Go.Proofs.Ytopbkdpbljebgaa

/- More rules: numbers of 64 bits without sign, least and greatest, bytes of strings. Conditions: of each rule its own. -/
set_option linter.unusedSimpArgs false
set_option linter.unusedVariables false
namespace Go.Proofs.Ytopbkdpbljebgaa
open Go.RowKit
section
variable {P : Program} {B : Base} {n : Nat} {S l r : List Assn} {f : Fr} {K : Value → List Assn → Prop}
variable {d : Option Tmp} {ty : TypeId} {pos : String} {af : Array Edge} {gd : Option (Nat × Bool)}

theorem Own.tl {w : World} {A : Assn} (H : Own B w (A :: l)) : Own B w l := H.map fun _ k => k.tail
theorem Qt.shr64 {t t2 : TypeId} {x y : Operand} {a : UInt64} {k : IntKind} {i : Int} (j : Nat) (hx : ev n f x = some (.int .u64 a.toNat)) (hy : ev n f y = some (.int k i)) (hi : i = (j : Int)) (hj : j < 64) : Qt P B n S ⟨d, .binOp .shr t x y t2, ty, pos, af, gd⟩ f (.int .u64 (a.toNat / 2 ^ j : Nat)) := ⟨fun w _ => by
  subst hi
  have e : (a.toNat : Int).fdiv (2 ^ j) = ((a.toNat / 2 ^ j : Nat) : Int) := by
    rw [Int.fdiv_eq_ediv_of_nonneg _ (by exact_mod_cast Nat.zero_le _)]
    push_cast; rfl
  have h : (Op.shift .shr .u64 (a.toNat : Int) k (j : Int)).run P w = .ok (.int .u64 (a.toNat / 2 ^ j : Nat)) w := by
    have : min j 64 = j := by omega
    simp [Op.shift, IntKind.bits, this]
  simp [execOp, evu_eq hx, evu_eq hy, eqGuard, Go.binOp, h]⟩
/-! append of so many noughts: 'append(s, make([]T, m)...)' -/
section
variable (w : World)
end
end
end Go.Proofs.Ytopbkdpbljebgaa

/- Calls that panic, closures, interface values: rules of a walk. Conditions: none. -/
set_option linter.unusedSimpArgs false
set_option linter.unusedVariables false
namespace Go.Proofs.Ytopbkdpbljebgaa
open Go.RowKit

/-! blocks that lie behind a list -/
theorem Has.over {A : Assn} : ∀ {m r : List Assn} {h : Piece}, Has (m ++ A :: r) h → Has (A :: (m ++ r)) h
  | [], _, _, H => H
  | _ :: _, _, _, H => Has.swap (Has.cons_imp (fun _ k => Has.over k) H)
theorem Has.app_imp {l l' : List Assn} (f : ∀ k, Has l k → Has l' k) : ∀ {m : List Assn} {h : Piece}, Has (m ++ l) h → Has (m ++ l') h
  | [], _, H => f _ H
  | _ :: _, _, H => Has.cons_imp (fun _ k => Has.app_imp f k) H
theorem Has.app_tail {l : List Assn} : ∀ {m : List Assn} {h : Piece}, Has (m ++ l) h → Has l h
  | [], _, H => H
  | _ :: _, _, H => Has.app_tail H.tail
instance (priority := low) (A : Assn) (m l r : List Assn) [k : TakeA A l r] : TakeA A (m ++ l) (m ++ r) := ⟨fun _ H => Has.over (Has.app_imp k.take H)⟩
instance (priority := low) (v : Value) (e sz n : Nat) (xs : List Value) (m l r : List Assn) [k : TakeR v l e sz n xs r] : TakeR v (m ++ l) e sz n xs (m ++ r) := ⟨fun _ H => Has.over (Has.app_imp k.take H)⟩
instance (priority := low) (g : Nat) (m l : List Assn) (C : List Value) [k : CellsAt g l C] : CellsAt g (m ++ l) C := ⟨fun _ H => k.find _ H.app_tail⟩
instance (priority := low) (g : Nat) (m l : List Assn) (C : List Value) (t : TypeId) [k : FindB g l C t] : FindB g (m ++ l) C t := ⟨fun _ H => k.find _ H.app_tail⟩
instance (priority := low) (g : Nat) (D : List Value) (m l r : List Assn) [k : ReplB g l D r] : ReplB g (m ++ l) D (m ++ r) := ⟨by
  obtain ⟨C, t, x, h1, h2⟩ := k.cut
  exact ⟨C, t, m ++ x, fun h H => Has.over (Has.app_imp h1 H), fun h H => Has.app_imp h2 (Has.under H)⟩⟩
instance (priority := low) (g : Nat) (m l r : List Assn) (C D : List Value) [k : StoreAt g l C D r] : StoreAt g (m ++ l) C D (m ++ r) := ⟨fun hd h H => by
  obtain ⟨h1, h2, d, a, b, e, H2⟩ := H.split
  obtain ⟨X, t, y, e1, e2⟩ := k.cut hd h2 H2
  exact ⟨X, t, m ++ y, Has.over (Has.join d a b e e1), fun h' H' => Has.app_imp e2 (Has.under H')⟩⟩
abbrev chainOf (pv : Value) : List PanicEntry := [{ v := pv, recovered := false }]
/-- A function's contract where it panics: with this value, and what was owned is owned. -/
structure Fx (P : Program) (B : Base) (g : FuncId) (args : Array Value) (pre : List Assn) (pv : Value) : Prop where
  run : ∀ w F, Own B w (pre ++ F) → Calls P g args w fun e w' => e = .panicked (chainOf pv) ∧ Own B w' (pre ++ F)
def FxPost (pv : Value) (S F : List Assn) : Post := fun e _ l => e = .panic (chainOf pv) ∧ Sub l (S ++ F)

section
variable {P : Program} {B : Base} {n : Nat} {ops : Array Oper} {rest : List Oper} {o : Oper} {Φ : Post} {f : Fr} {l l' : List Assn} {pv : Value}
theorem Fx.enter {g : FuncId} {fn : Func} {c : Code} {args : List Value} {pre : List Assn} (hfn : P.funcs[g]? = some fn) (hc : fn.body = some c) (hn : fn.ntmps = n) (hl : args.length ≤ n)
    (h : ∀ F, T P B n c (FxPost pv pre F) (U (fun _ => none) ((List.range args.length).zip args)) (pre ++ F)) : Fx P B g args.toArray pre pv := ⟨fun w F ho => by
  refine calls_of_wp hfn hc ?_
  rw [hn, enter_eq args n hl]
  refine (h F).run _ w ⟨fun e f w' l hk ho' => ?_, fun c a d v w' k => (by cases d <;> exact k)⟩ ho
  obtain ⟨rfl, hs⟩ := hk
  exact ⟨rfl, rfl, ho'.map hs⟩⟩
theorem Fx.enter2 {g : FuncId} {fn : Func} {c : Code} {a0 a1 : Value} {pre : List Assn} (n : Nat) (hfn : P.funcs[g]? = some fn) (hc : fn.body = some c) (hn : fn.ntmps = n) (hl : 2 ≤ n)
    (h : ∀ F, T P B n c (FxPost pv pre F) (upd (upd (fun _ => none) 1 a1) 0 a0) (pre ++ F)) : Fx P B g #[a0, a1] pre pv := Fx.enter (args := [a0, a1]) hfn hc hn hl h
theorem Fx.enter3 {g : FuncId} {fn : Func} {c : Code} {a0 a1 a2 : Value} {pre : List Assn} (n : Nat) (hfn : P.funcs[g]? = some fn) (hc : fn.body = some c) (hn : fn.ntmps = n) (hl : 3 ≤ n)
    (h : ∀ F, T P B n c (FxPost pv pre F) (upd (upd (upd (fun _ => none) 2 a2) 1 a1) 0 a0) (pre ++ F)) : Fx P B g #[a0, a1, a2] pre pv := Fx.enter (args := [a0, a1, a2]) hfn hc hn hl h
/-- An operation that panics. -/
structure Dx (P : Program) (B : Base) (n : Nat) (o : Oper) (f : Fr) (l : List Assn) (pv : Value) (l' : List Assn) : Prop where
  run : ∀ w next Q, Own B w l → (∀ w', Own B w' l' → Q (.panic (chainOf pv)) (act n f) w') → o.wp P (act n f) w next Q
section named
variable {t : Option Tmp} {ty : TypeId} {pos : String} {af : Array Edge} {gd : Option (Nat × Bool)}
theorem Dx.call {g : FuncId} {fn : Func} {args : Array Operand} {ats : Array TypeId} {vs : List Value} {pre F : List Assn} (hc : Fx P B g vs.toArray pre pv) (hf : P.funcs[g]? = some fn) (hn : (fn.name == "runtime.NumGoroutine") = false) (hb : fn.body.isNone = false)
    (ha : args.toList.map (ev n f) = vs.map some) [k : TakeL pre l F] : Dx P B n ⟨t, .call ⟨.value (.func g), args, ats⟩, ty, pos, af, gd⟩ f l pv (pre ++ F) := ⟨fun w next Q ho hk => by
  have hav : args.map (evu n f) = vs.toArray := by
    have : args.toList.map (evu n f) = vs := by
      have e := congrArg (List.map (fun o : Option Value => o.getD undef)) ha
      have e2 : (fun x => evu n f x) = evu n f := rfl
      simp only [List.map_map, Function.comp_def, Option.getD_some, List.map_id'] at e
      exact e
    rw [← Array.toList_inj, Array.toList_map]
    simpa using this
  have h0 := hc.run w F ho.takeL
  unfold Oper.wp execOp
  rw [eval_act']
  have he : ((do let c ← resolve (evu n f) ⟨.value (.func g), args, ats⟩ ty; invoke c.target c.args) : Sem Next).run P w = .ok (.enter g vs.toArray) w := by
    simp only [resolve, hav]
    have hg : evu n f (.func g) = .func (.func g) #[] #[] := rfl
    have hn' : ¬ fn.name = "runtime.NumGoroutine" := by simpa using hn
    have hb' : ¬ fn.body = none := fun e => by rw [e] at hb; cases hb
    simp [hg, Deferred.ofValue, invoke, callFunc, hf, hn', hb']
  rw [he]
  show Calls P g vs.toArray w _
  refine Calls.mono h0 ?_
  rintro e w' ⟨rfl, ho'⟩
  exact hk w' ho'⟩
theorem Dx.pan {x : Operand} {ti : TypeId} {v : Value} (hx : ev n f x = some (.iface ti v)) : Dx P B n ⟨t, .panic x, ty, pos, af, gd⟩ f l (.iface ti v) l := ⟨fun w next Q ho hk => by
  unfold Oper.wp execOp
  simp only [eval_act', evu_eq hx, Instr.panic]
  exact hk w ho⟩
theorem Qt.makeFunc {S : List Assn} {fv : FuncId} {cs : Array Operand} (vs : List Value) (hc : cs.toList.map (ev n f) = vs.map some) : Qt P B n S ⟨t, .makeFunc (.func fv) #[] cs, ty, pos, af, gd⟩ f (.func (.func fv) #[] vs.toArray) := ⟨fun w _ => by
  have hav : cs.map (evu n f) = vs.toArray := by
    have : cs.toList.map (evu n f) = vs := by
      have e := congrArg (List.map (fun o : Option Value => o.getD undef)) hc
      have e2 : (fun x => evu n f x) = evu n f := rfl
      simp only [List.map_map, Function.comp_def, Option.getD_some, List.map_id'] at e
      exact e
    rw [← Array.toList_inj, Array.toList_map]
    simpa using this
  simp [execOp, Instr.makeFunc, hav]⟩
theorem Qt.iface {S : List Assn} {ti : TypeId} {x : Operand} {v : Value} (h : (match P.underlying ti with | some (.interface _) => false | some _ => true | none => false) = true) (hx : ev n f x = some v) : Qt P B n S ⟨t, .makeInterface ti x, ty, pos, af, gd⟩ f (.iface ti v) := ⟨fun w _ => by
  split at h
  · cases h
  · rename_i d hd hu
    simp only [execOp, Instr.makeInterface, Sem.run_bind, run_underlying hu, Result.andThen_ok, evu_eq hx]
    cases d <;> first | exact (hd _ rfl).elim | rfl
  · cases h⟩
theorem Ef.callC {d : Option Tmp} {x : Operand} {g : FuncId} {fn : Func} {args : Array Operand} {ats : Array TypeId} {pre F : List Assn} {R : Value → List Assn → Prop} {K : Value → List Assn → Prop} (vs cap : List Value) (hc : Fn P B g (vs ++ cap).toArray pre R) (hf : P.funcs[g]? = some fn) (hn : (fn.name == "runtime.NumGoroutine") = false) (hb : fn.body.isNone = false)
    (hx : ev n f x = some (.func (.func g) #[] cap.toArray)) (ha : args.toList.map (ev n f) = vs.map some) (hne : (match x with | .func _ => false | _ => true) = true) [k : TakeL pre l F] (h : ∀ v l', R v l' → K v (l' ++ F)) : Ef P B n ⟨d, .call ⟨.value x, args, ats⟩, ty, pos, af, gd⟩ f l K := ⟨fun w next Q ho hk => by
  have hav : args.map (evu n f) = vs.toArray := by
    have : args.toList.map (evu n f) = vs := by
      have e := congrArg (List.map (fun o : Option Value => o.getD undef)) ha
      have e2 : (fun x => evu n f x) = evu n f := rfl
      simp only [List.map_map, Function.comp_def, Option.getD_some, List.map_id'] at e
      exact e
    rw [← Array.toList_inj, Array.toList_map]
    simpa using this
  have h0 := hc.run w F ho.takeL
  unfold Oper.wp execOp
  rw [eval_act']
  have he : ((do let c ← resolve (evu n f) ⟨.value x, args, ats⟩ ty; invoke c.target c.args) : Sem Next).run P w = .ok (.enter g (vs ++ cap).toArray) w := by
    simp only [resolve, hav]
    have hn' : ¬ fn.name = "runtime.NumGoroutine" := by simpa using hn
    have hb' : ¬ fn.body = none := fun e => by rw [e] at hb; cases hb
    simp [evu_eq hx, Deferred.ofValue, invoke, callFunc, hf, hn', hb']
  rw [he]
  show Calls P g (vs ++ cap).toArray w _
  refine Calls.mono h0 ?_
  rintro e w' ⟨v, l', rfl, hR, ho'⟩
  exact hk v w' _ (h v l' hR) ho'⟩
end named
theorem LW.dies (hw : want n ops f o = true) (hd : Dx P B n o f l pv l') (h : Φ (.panic (chainOf pv)) f l') : LW P B n ops (o :: rest) Φ f l := ⟨fun Q w hf ho => by
  unfold wpList
  rw [want_eq, if_pos hw]
  exact .inl (hd.run w _ Q ho fun w' ho' => hf.go _ _ w' _ h ho')⟩
theorem RO.dies {m k i : Nat} {S : List Assn} {listed : Array Bool} {rest' : List Oper} (hi : ops.toList.drop i = o :: rest') (hw : want n ops f o = true) (hd : Dx P B n o f l pv l') (h : Φ (.panic (chainOf pv)) f l') : RO P B n ops m Φ k S listed f l i := ⟨fun Q w hf ho => by
  have hi' := getElem?_of_drop hi
  unfold wpOp
  simp only [hi']
  rw [want_eq, if_pos hw]
  exact .inl (hd.run w _ Q ho fun w' ho' => hf.go _ _ w' _ h ho')⟩
end
end Go.Proofs.Ytopbkdpbljebgaa

/- The package bind: slices of records that are read; Scope and Find. Conditions: that what is handed in can be read; sizes. -/
set_option linter.unusedSimpArgs false
set_option linter.unusedVariables false
namespace Go.Proofs.Ytopbkdpbljebgaa
open Go.RowKit

abbrev Str := List UInt8
abbrev tV (d : Str) : Value := .string (strOf d)
abbrev iV (a : Int) : Value := .int .i64 a
section
variable {P : Program} {B : Base} {n : Nat} {S S' l : List Assn} {f : Fr}
variable {d : Option Tmp} {ty : TypeId} {pos : String} {af : Array Edge} {gd : Option (Nat × Bool)}
/-- A load of several cells that are known in each world. -/
theorem Qt.loadAggW {t g o : Nat} {x : Operand} (vs : List Value) (h1 : aggB P t vs.length = true) (hx : ev n f x = some (.pointer (some ⟨g, o, none⟩))) (hc : ∀ w, Own B w S → w.rangeAt g o vs) : Qt P B n S ⟨d, .load t x, ty, pos, af, gd⟩ f (.agg vs.toArray) := ⟨fun w ho => by
  have hr := hc w ho
  unfold aggB at h1
  split at h1
  · rename_i fs hu
    have := run_loadAt_mid (P := P) w g o t vs _ hr hu rfl (by simpa [szOf] using h1)
    simp [execOp, evu_eq hx, this]
  · rename_i a b hu
    have := run_loadAt_mid (P := P) w g o t vs _ hr hu rfl (by simpa [szOf] using h1)
    simp [execOp, evu_eq hx, this]
  · cases h1⟩
/-- A slice of records that lie flat, to be read. -/
def FlV (B : Base) (S : List Assn) {α : Type} (g : α → List Value) (v : Value) (l : List α) : Prop := ∃ a c, v = .slice a l.length c ∧ (l = [] ∨ ∃ b o, a = some ⟨b, o, none⟩ ∧ ∀ w, Own B w S → w.rangeAt b o (l.flatMap g))
variable {α : Type} {g : α → List Value}
theorem FlV.mono {v : Value} {x : List α} (h : FlV B S g v x) (hs : ∀ w, Own B w S' → Own B w S) : FlV B S' g v x := by
  obtain ⟨a, cap, e, h⟩ := h
  refine ⟨a, cap, e, h.imp id ?_⟩
  rintro ⟨b, o, e1, h1⟩
  exact ⟨b, o, e1, fun w ho => h1 w (hs w ho)⟩
theorem FlV.empty (a : Option Addr) (c : Nat) : FlV B S g (.slice a 0 c) [] := ⟨a, c, rfl, .inl rfl⟩
theorem FlV.form {v : Value} {x : List α} {m : Nat} (h : FlV B S g v x) (hm : x.length = m) : ∃ a cap, v = .slice a m cap := by
  obtain ⟨a, cap, rfl, _⟩ := h
  exact ⟨a, cap, by rw [hm]⟩
theorem rangeAt_part {w : World} {b o : Nat} {cs ds : List Value} (k : Nat) (h : w.rangeAt b o cs) (hd : ∀ j v, ds[j]? = some v → cs[k + j]? = some v) : w.rangeAt b (o + k) ds := fun j v hv => by
  rw [Nat.add_assoc]; exact h (k + j) v (hd j v hv)
theorem flat_part {sz : Nat} (hg : ∀ x, (g x).length = sz) {T : List α} {i : Nat} {x : α} (h : T[i]? = some x) (j : Nat) (v : Value) (hv : (g x)[j]? = some v) : (T.flatMap g)[i * sz + j]? = some v := by
  have hj : j < sz := by have := (List.getElem?_eq_some_iff.1 hv).1; rwa [hg] at this
  induction T generalizing i with
  | nil => simp at h
  | cons y R ih =>
    cases i with
    | zero =>
      simp at h; subst h
      rw [List.flatMap_cons, Nat.zero_mul, Nat.zero_add, List.getElem?_append_left (by rw [hg]; exact hj)]
      exact hv
    | succ i =>
      have := ih (i := i) (by simpa using h)
      rw [List.flatMap_cons, List.getElem?_append_right (by rw [hg, Nat.add_mul]; omega), ← this, hg]
      congr 1
      rw [Nat.add_mul]; omega
theorem FlV.at {a : Option Addr} {m c sz : Nat} {x : List α} (h : FlV B S g (.slice a m c) x) (hg : ∀ y, (g y).length = sz) (hp : 0 < m) : ∃ b o, a = some ⟨b, o, none⟩ ∧ ∀ i y, x[i]? = some y → ∀ w, Own B w S → w.rangeAt b (o + i * sz) (g y) := by
  obtain ⟨a2, c2, e, h1 | ⟨b, o, e1, h1⟩⟩ := h
  · subst h1; injection e with _ e2 _; simp at e2; omega
  · injection e with e2 _ _
    exact ⟨b, o, e2.trans e1, fun i y hy w ho => rangeAt_part _ (h1 w ho) (fun j v hv => flat_part hg hy j v hv)⟩
theorem FlV.ofRow {p : Option Addr} {m c e sz : Nat} {x : List α} {l : List Assn} (hg : ∀ y, (g y).length = sz) (hz : 0 < sz) (hS : ∀ w, Own B w S → w.ownsRow 0 e sz (.slice p m c) m (x.flatMap g)) (hm : x.length = m) (hp : 0 < m → ∃ g, p = some ⟨g, 0, none⟩) : FlV B S g (.slice p m c) x := by
  refine ⟨p, c, by rw [hm], ?_⟩
  rcases Nat.eq_zero_or_pos m with h0 | h0
  · exact .inl (List.eq_nil_of_length_eq_zero (by omega))
  · obtain ⟨g, rfl⟩ := hp h0
    refine .inr ⟨g, 0, rfl, fun w ho j v hv => ?_⟩
    have := (hS w ho).cells (g := g) rfl j v hv
    rwa [Addr.add_mid] at this
theorem FlV.row {p : Option Addr} {m c e sz : Nat} {x : List α} {l : List Assn} (hg : ∀ y, (g y).length = sz) (hz : 0 < sz) (hm : x.length = m) (hp : 0 < m → ∃ g, p = some ⟨g, 0, none⟩) : FlV B (row (.slice p m c) e sz m (x.flatMap g) :: l) g (.slice p m c) x :=
  FlV.ofRow (l := l) hg hz (fun _ ho => ho.row_owns) hm hp
theorem FlV.blk {b m c : Nat} {t : TypeId} {x : List α} {l : List Assn} (hm : x.length = m) : FlV B (blk b (x.flatMap g) t :: l) g (.slice (some ⟨b, 0, none⟩) m c) x :=
  ⟨_, c, by rw [hm], .inr ⟨b, 0, rfl, fun w ho => ho.range (g := b) (o := 0) (C := x.flatMap g) (fun j v hj => by rw [Nat.zero_add]; exact hj)⟩⟩
theorem rangeAt_one {w : World} {b o : Nat} {cs : List Value} {j : Nat} {v : Value} (h : w.rangeAt b o cs) (hj : cs[j]? = some v) : w.cell? ⟨b, o + j, none⟩ = some v := h j v hj
end

structure Co where
  table : Str
  name : Str
  kind : Int
abbrev coC (c : Co) : List Value := [tV c.table, tV c.name, iV c.kind]
theorem coC_len (c : Co) : (coC c).length = 3 := rfl
abbrev ccC (c : Str × Int) : List Value := [tV c.1, iV c.2]
structure Tb where
  id : Int
  name : Str
  cols : List (Str × Int)
/-- A slice of tables, to be read. -/
def TbV (B : Base) (S : List Assn) (v : Value) (l : List Tb) : Prop := ∃ a c, v = .slice a l.length c ∧ (l = [] ∨ ∃ b o, a = some ⟨b, o, none⟩ ∧ ∀ i t, l[i]? = some t → ∃ ca cc ka kl kc ib, (∀ w, Own B w S → w.rangeAt b (o + i * 5) [iV t.id, tV t.name, .slice ca t.cols.length cc, .slice ka kl kc, .bool ib]) ∧ FlV B S ccC (.slice ca t.cols.length cc) t.cols)
theorem TbV.mono {B : Base} {S S' : List Assn} {v : Value} {l : List Tb} (h : TbV B S v l) (hs : ∀ w, Own B w S' → Own B w S) : TbV B S' v l := by
  obtain ⟨a, cap, e, h⟩ := h
  refine ⟨a, cap, e, h.imp id ?_⟩
  rintro ⟨b, o, e1, h1⟩
  refine ⟨b, o, e1, fun i t ht => ?_⟩
  obtain ⟨ca, cc, ka, kl, kc, ib, g1, g2⟩ := h1 i t ht
  exact ⟨ca, cc, ka, kl, kc, ib, fun w ho => g1 w (hs w ho), g2.mono hs⟩
def colsP (t : Tb) : List Co := t.cols.map fun c => ⟨t.name, c.1, c.2⟩
def scopeP (l : List Tb) : List Co := l.flatMap colsP
theorem scopeP_succ {l : List Tb} {i : Nat} {t : Tb} (h : l[i]? = some t) : scopeP (l.take (i + 1)) = scopeP (l.take i) ++ colsP t := by
  unfold scopeP
  rw [List.take_add_one, h, List.flatMap_append]
  simp
theorem colsP_succ {t : Tb} {j : Nat} {c : Str × Int} (h : t.cols[j]? = some c) : (colsP t).take (j + 1) = (colsP t).take j ++ [⟨t.name, c.1, c.2⟩] := by
  unfold colsP
  rw [List.take_add_one, List.getElem?_map, h]
  rfl
theorem scopeP_len {l : List Tb} (k : Nat) : (scopeP (l.take k)).length ≤ (l.map fun t => t.cols.length).sum := by
  unfold scopeP
  induction l generalizing k with
  | nil => simp
  | cons t l ih =>
    cases k with
    | zero => simp
    | succ k =>
      rw [List.take_succ_cons, List.flatMap_cons, List.length_append, List.map_cons, List.sum_cons]
      have := ih k
      unfold colsP at this ⊢
      simp only [List.length_map]
      omega
theorem Bd.elemC : ElemOk Try.prog 24 31 3 40 := .mk' (.agg #[.string .empty, .string .empty, .int .i64 0]) Try.underlying24 (by kernel_rfl) rfl (by omega)
set_option maxHeartbeats 1000000 in
theorem Bd.scope (B : Base) (S : List Assn) (tv : Value) (ts : List Tb) (h : TbV B S tv ts) (hn : ts.length < 2 ^ 32) (hc : (ts.map fun t => t.cols.length).sum < 2 ^ 30) : Fn Try.prog B 11 #[tv] S (fun u l => ∃ p c, u = .slice p (scopeP ts).length c ∧ (0 < (scopeP ts).length → ∃ g, p = some ⟨g, 0, none⟩) ∧ l = row (.slice p (scopeP ts).length c) 31 3 (scopeP ts).length ((scopeP ts).flatMap coC) :: S) := by
 obtain ⟨a, cap, rfl, hr⟩ := h
 refine Fn.enter1 31 Try.func11 rfl rfl (Nat.le_of_ble_eq_true rfl) (fun F => ?_)
 try simp only [List.cons_append, List.nil_append]
 refine T.seq ?_
 refine T.region ?_
 refine LW.q rfl (Qt.assign rfl) ?_
 refine LW.done ?_
 refine T.seq ?_
 refine T.region ?_
 refine LW.q rfl (Qt.assign rfl) ?_
 refine LW.done ?_
 refine T.seq ?_
 refine T.seq ?_
 refine T.region ?_
 refine LW.q rfl (Qt.move rfl) ?_
 refine LW.q rfl (Qt.len (e := 48) (sz := 5) (by kernel_rfl) rfl) ?_
 refine LW.q rfl (Qt.move rfl) ?_
 refine LW.done ?_
 refine T.block ?_
 refine T.conv (l' := row (.slice none 0 0) 31 3 0 (List.flatMap coC []) :: _) (fun w ho => ho.row_nil 31 3) ?_
 refine T.loop (fun mz fz lz => ∃ (f0 : Fr) (i : Nat) (acc : List Co) (p : Option Addr) (n c : Nat), (i ≤ ts.length ∧ acc = scopeP (ts.take i) ∧ acc.length = n ∧ (0 < n → ∃ g, p = some ⟨g, 0, none⟩)) ∧ mz = ts.length - i ∧ fz = (upd (upd (upd (upd f0 3 (.slice p n c)) 8 (.slice a ts.length cap)) 9 (.int .i64 ts.length)) 10 (.int .i64 i)) ∧ lz = row (.slice p n c) 31 3 n (acc.flatMap coC) :: (S ++ F)) ?_ ?_
 · refine ⟨_, _, ⟨_, 0, [], none, 0, 0, ⟨Nat.zero_le _, rfl, rfl, fun h => absurd h (by omega)⟩, rfl, (updS rfl (updS rfl (updS rfl (updS rfl rfl)))), rfl⟩, Sub.any⟩
 ·
  rintro mz fz lz ⟨f0, i, acc, p, n, c, ⟨hi, hacc, hlen, hp⟩, hmz, rfl, rfl⟩
  subst mz
  try simp only [List.cons_append, List.nil_append]
  refine T.seq ?_
  refine T.region ?_
  refine LW.q rfl (Qt.lss rfl rfl) ?_
  refine LW.done ?_
  refine T.seq ?_
  refine T.condP rfl (fun hlt => ?_) (fun hlt => ?_)
  ·
   obtain ⟨b, o, rfl, hro⟩ := hr.resolve_left (by intro e; rw [e] at hlt; simp at hlt; omega)
   obtain ⟨t, ht⟩ : ∃ t, ts[i]? = some t := ⟨_, List.getElem?_eq_getElem (by omega)⟩
   obtain ⟨ca, cc, ka, kl, kc, ib, h1, h2⟩ := hro i t ht
   have hsl := scopeP_len (l := ts) (i + 1)
   rw [scopeP_succ ht] at hsl
   have hcl : (colsP t).length = t.cols.length := by simp [colsP]
   rw [List.length_append, hcl, ← hacc, hlen] at hsl
   clear hro hr
   refine T.skip ?_
   refine T.seq ?_
   refine T.block ?_
   refine T.seq ?_
   refine T.region ?_
   refine LW.q rfl (Qt.index _ (e := 48) (sz := 5) (by kernel_rfl) rfl rfl rfl (by omega)) ?_
   refine LW.q rfl (Qt.loadAggW [_, _, _, _, _] (by kernel_rfl) rfl (fun w ho => h1 w (ho.map Sub.any))) ?_
   refine LW.e rfl (Ef.alloc [.int .i64 0, .string .empty, .slice none 0 0, .slice none 0 0, .bool false] (by unfold zeroB; kernel_rfl) ?_)
   intro g5
   refine LW.e0 rfl (Ef.store [_, _, _, _, _] (by kernel_rfl) rfl rfl rfl rfl (by simp) ?_)
   try simp only [splice, List.length_cons, List.length_nil, List.drop_succ_cons, List.cons_append, List.take_succ_cons, List.take_zero, List.drop_zero, List.nil_append, List.append_nil]
   refine LW.done ?_
   refine T.seq ?_
   refine T.region ?_
   refine LW.q rfl (Qt.fieldAddr (off := 2) (by kernel_rfl) rfl) ?_
   first | refine LW.q rfl (Qt.load (by kernel_rfl) rfl rfl) ?_ | refine LW.q rfl (Qt.load (by kernel_rfl) rfl (map_at _ _ _ (by omega))) ?_ | refine LW.q rfl (Qt.load (by kernel_rfl) rfl (flat_cell0 _ _ _ (by intros; rfl) _ (by omega) (by rfl))) ?_ | refine LW.q rfl (Qt.load (by kernel_rfl) rfl (flat_cell _ _ _ (by intros; rfl) _ _ (by omega) (by rfl))) ?_ | refine LW.q rfl (Qt.load (by kernel_rfl) rfl (bytes_at _ _ (by omega))) ?_
   refine LW.q rfl (Qt.len (e := 29) (sz := 2) (by kernel_rfl) rfl) ?_
   refine LW.q rfl (Qt.move rfl) ?_
   refine LW.done ?_
   refine T.block ?_
   refine T.loop (fun mz fz lz => ∃ (f0 : Fr) (j : Nat) (acc2 : List Co) (p : Option Addr) (n2 c : Nat), (j ≤ t.cols.length ∧ acc2 = acc ++ (colsP t).take j ∧ acc2.length = n2 ∧ n2 = n + j ∧ (0 < n2 → ∃ g, p = some ⟨g, 0, none⟩)) ∧ mz = t.cols.length - j ∧ fz = (upd (upd (upd (upd (upd (upd (upd (upd f0 3 (.slice p n2 c)) 5 (.pointer (some ⟨g5, 0, none⟩))) 8 (.slice (some ⟨b, o, none⟩) ts.length cap)) 9 (.int .i64 ts.length)) 10 (.int .i64 i)) 15 (.slice ca t.cols.length cc)) 16 (.int .i64 t.cols.length)) 17 (.int .i64 j)) ∧ lz = row (.slice p n2 c) 31 3 n2 (acc2.flatMap coC) :: blk g5 [iV t.id, tV t.name, .slice ca t.cols.length cc, .slice ka kl kc, .bool ib] 48 :: (S ++ F)) ?_ ?_
   · refine ⟨_, _, ⟨_, 0, acc, p, n, c, ⟨Nat.zero_le _, by simp, hlen, rfl, hp⟩, rfl, (updS rfl (updS rfl (updS rfl (updS rfl (updS rfl (updS rfl (updS rfl (updS rfl rfl)))))))), rfl⟩, Sub.any⟩
   ·
    rintro mz fz lz ⟨f0, j, acc2, p, n2, c, ⟨hj, hacc2, hlen2, hn2, hp2⟩, hmz, rfl, rfl⟩
    subst mz
    try simp only [List.cons_append, List.nil_append]
    refine T.seq ?_
    refine T.region ?_
    refine LW.q rfl (Qt.lss rfl rfl) ?_
    refine LW.done ?_
    refine T.seq ?_
    refine T.condP rfl (fun hlt2 => ?_) (fun hlt2 => ?_)
    ·
     obtain ⟨cb, co, rfl, hcr⟩ := h2.at (sz := 2) (fun _ => rfl) (by omega)
     obtain ⟨q, hq⟩ : ∃ q, t.cols[j]? = some q := ⟨_, List.getElem?_eq_getElem (by omega)⟩
     have hq1 := hcr j q hq
     refine T.skip ?_
     refine T.seq ?_
     refine T.block ?_
     refine T.seq ?_
     refine T.region ?_
     refine LW.q rfl (Qt.index _ (e := 29) (sz := 2) (by kernel_rfl) rfl rfl rfl (by omega)) ?_
     refine LW.q rfl (Qt.loadAggW [_, _] (by kernel_rfl) rfl (fun w ho => hq1 w (ho.map Sub.any))) ?_
     refine LW.e rfl (Ef.alloc [.string .empty, .int .i64 0] (by unfold zeroB; kernel_rfl) ?_)
     intro g7
     refine LW.e0 rfl (Ef.store [_, _] (by kernel_rfl) rfl rfl rfl rfl (by simp) ?_)
     try simp only [splice, List.length_cons, List.length_nil, List.drop_succ_cons, List.cons_append, List.take_succ_cons, List.take_zero, List.drop_zero, List.nil_append, List.append_nil]
     refine LW.done ?_
     refine T.region ?_
     refine LW.q rfl (Qt.move rfl) ?_
     refine LW.q rfl (Qt.fieldAddr (off := 1) (by kernel_rfl) rfl) ?_
     first | refine LW.q rfl (Qt.load (by kernel_rfl) rfl rfl) ?_ | refine LW.q rfl (Qt.load (by kernel_rfl) rfl (map_at _ _ _ (by omega))) ?_ | refine LW.q rfl (Qt.load (by kernel_rfl) rfl (flat_cell0 _ _ _ (by intros; rfl) _ (by omega) (by rfl))) ?_ | refine LW.q rfl (Qt.load (by kernel_rfl) rfl (flat_cell _ _ _ (by intros; rfl) _ _ (by omega) (by rfl))) ?_ | refine LW.q rfl (Qt.load (by kernel_rfl) rfl (bytes_at _ _ (by omega))) ?_
     first | refine LW.q rfl (Qt.loadAgg [_, _] (by kernel_rfl) rfl ⟨rfl, rfl, trivial⟩) ?_ | refine LW.q rfl (Qt.loadAgg [_, _] (by kernel_rfl) rfl (by exact rdl_flat _ _ _ (by intros; rfl) _ (by omega))) ?_
     refine LW.q rfl (Qt.build [(0, 1), (1, 2)] [.string .empty, .string .empty, .int .i64 0] [_, _, _] [(0, _), (1, _)] (by kernel_rfl) (by unfold zeroB; kernel_rfl) rfl rfl) ?_
     refine LW.e rfl (Ef.one [_, _, _] (e := 31) (sz := 3) (by kernel_rfl) ⟨.agg #[.string .empty, .string .empty, .int .i64 0], by kernel_rfl, rfl⟩ rfl rfl rfl (by omega) (by omega) ?_)
     intro g26
     refine LW.e rfl (Ef.append Bd.elemC rfl rfl (SrcOf.blk (by kernel_rfl) rfl (by simp [Value.oneCell'])) (by unfold maxLen; omega) (by omega) ?_)
     rintro p4 c4 hp4
     try simp only [List.cons_append, List.nil_append]
     rw [show acc2.flatMap coC ++ [tV t.name, tV q.1, iV q.2] = (acc2 ++ [(⟨t.name, q.1, q.2⟩ : Co)]).flatMap coC by simp]
     refine LW.q rfl (Qt.assign rfl) ?_
     refine LW.done ?_
     refine T.region ?_
     refine LW.q rfl (Qt.add rfl rfl (wr64 (by omega) (by omega))) ?_
     refine LW.q rfl (Qt.move rfl) ?_
     refine LW.done ?_
     refine ⟨_, ?_, _, ⟨_, j + 1, acc2 ++ [⟨t.name, q.1, q.2⟩], p4, n2 + 1, c4, ⟨by omega, by rw [hacc2, colsP_succ hq, List.append_assoc], by simp [hlen2], by omega, hp4⟩, rfl, (updS rfl (updS rfl (updS rfl (updS rfl (updS rfl (updS rfl (updS rfl (updS rfl rfl)))))))), rfl⟩, Sub.any⟩
     first | omega | (simp; omega)
    ·
     obtain rfl : t.cols.length = j := by omega
     refine T.exit ?_
     refine T.region ?_
     refine LW.q rfl (Qt.add rfl rfl (wr64 (by omega) (by omega))) ?_
     refine LW.q rfl (Qt.move rfl) ?_
     refine LW.done ?_
     refine ⟨_, ?_, _, ⟨_, i + 1, acc2, p, n2, c, ⟨by omega, by rw [hacc2, scopeP_succ ht, hacc, show List.take t.cols.length (colsP t) = colsP t from List.take_of_length_le (by rw [hcl]; exact Nat.le_refl _)], hlen2, hp2⟩, rfl, (updS rfl (updS rfl (updS rfl (updS rfl rfl)))), rfl⟩, Sub.any⟩
     first | omega | (simp; omega)
  ·
   obtain rfl : ts.length = i := by omega
   rw [List.take_length] at hacc
   subst hacc
   subst hlen
   refine T.exit ?_
   refine T.seq ?_
   refine T.region ?_
   refine LW.q rfl (Qt.move rfl) ?_
   refine LW.q rfl (Qt.assign rfl) ?_
   refine LW.done ?_
   refine T.ret ?_
   exact ⟨.inl rfl, _, _, res [_] rfl ⟨rvT rfl, trivial⟩, ⟨p, c, rfl, hp, rfl⟩, Sub.any⟩

def okT (of : Str) (c : Co) : Bool := decide (of = [] ∨ c.table = of)
def hitB (sc : List Co) (of name : Str) (i : Nat) : Bool := match sc[i]? with | some c => okT of c && decide (c.name = name) | none => false
def tabB (sc : List Co) (of : Str) (i : Nat) : Bool := match sc[i]? with | some c => okT of c | none => false
def hits (sc : List Co) (of name : Str) (k : Nat) : List Nat := (List.range k).filter (hitB sc of name)
def tabs (sc : List Co) (of : Str) (k : Nat) : Nat := ((List.range k).filter (tabB sc of)).length
theorem hits_succ (sc : List Co) (of name : Str) (k : Nat) : hits sc of name (k + 1) = hits sc of name k ++ if hitB sc of name k then [k] else [] := by
  unfold hits
  rw [List.range_succ, List.filter_append]
  simp only [List.filter_cons, List.filter_nil]
theorem tabs_succ (sc : List Co) (of : Str) (k : Nat) : tabs sc of (k + 1) = tabs sc of k + if tabB sc of k then 1 else 0 := by
  unfold tabs
  rw [List.range_succ, List.filter_append, List.length_append]
  simp only [List.filter_cons, List.filter_nil]
  split <;> rfl
theorem hitB_eq {sc : List Co} {of name : Str} {k : Nat} {q : Co} (h : sc[k]? = some q) : hitB sc of name k = (okT of q && decide (q.name = name)) := by unfold hitB; rw [h]
theorem tabB_eq {sc : List Co} {of : Str} {k : Nat} {q : Co} (h : sc[k]? = some q) : tabB sc of k = okT of q := by unfold tabB; rw [h]
theorem hits_mono (sc : List Co) (of name : Str) {k m : Nat} (h : k ≤ m) : (hits sc of name k).length ≤ (hits sc of name m).length := by
  induction m with
  | zero => obtain rfl : k = 0 := by omega
            exact Nat.le_refl _
  | succ m ih =>
    by_cases e : k = m + 1
    · rw [e]; exact Nat.le_refl _
    · rw [hits_succ, List.length_append]; have := ih (by omega); omega
theorem hits_lt {sc : List Co} {of name : Str} {k i : Nat} (h : i ∈ hits sc of name k) : i < k ∧ i < sc.length := by
  unfold hits at h
  obtain ⟨h1, h2⟩ := List.mem_filter.1 h
  refine ⟨List.mem_range.1 h1, ?_⟩
  unfold hitB at h2
  split at h2
  · rename_i c hc; exact (List.getElem?_eq_some_iff.1 hc).1
  · cases h2
theorem tabs_le (sc : List Co) (of : Str) (k : Nat) : tabs sc of k ≤ k := by
  unfold tabs
  have := List.length_filter_le (tabB sc of) (List.range k)
  rwa [List.length_range] at this
/-- The place of a name's column, the error's number. -/
def findC (sc : List Co) (of name : Str) : Nat × Int :=
  if 2 ≤ (hits sc of name sc.length).length then (0, 173)
  else if of ≠ [] ∧ tabs sc of sc.length = 0 then (0, 160)
  else match hits sc of name sc.length with
    | [] => (0, 161)
    | i :: _ => (i, 0)
def headI (l : List Nat) : Int := match l with | [] => -1 | i :: _ => i
set_option maxHeartbeats 1000000 in
theorem Bd.find (B : Base) (S : List Assn) (a : Option Addr) (m c : Nat) (sc : List Co) (of name : Str) (h : FlV B S coC (.slice a m c) sc) (hm : sc.length = m) (hn : m < 2 ^ 32) : Fn Try.prog B 9 #[.slice a m c, tV of, tV name] S (fun u l => u = .tuple #[iV (findC sc of name).1, iV (findC sc of name).2] ∧ l = S) := by
 refine Fn.enter3 51 Try.func9 rfl rfl (Nat.le_of_ble_eq_true rfl) (fun F => ?_)
 try simp only [List.cons_append, List.nil_append]
 refine T.seq ?_
 refine T.region ?_
 refine LW.q rfl (Qt.assign rfl) ?_
 refine LW.q rfl (Qt.assign rfl) ?_
 refine LW.done ?_
 refine T.seq ?_
 refine T.region ?_
 refine LW.q rfl (Qt.assign rfl) ?_
 refine LW.q rfl (Qt.assign rfl) ?_
 refine LW.done ?_
 refine T.seq ?_
 refine T.seq ?_
 refine T.region ?_
 refine LW.q rfl (Qt.move rfl) ?_
 refine LW.q rfl (Qt.len (e := 31) (sz := 3) (by kernel_rfl) rfl) ?_
 refine LW.q rfl (Qt.move rfl) ?_
 refine LW.done ?_
 refine T.block ?_
 refine T.loop (fun mz fz lz => ∃ (f0 : Fr) (k : Nat) (at0 tb : Int), (k ≤ m ∧ (hits sc of name k).length ≤ 1 ∧ at0 = headI (hits sc of name k) ∧ tb = (tabs sc of k : Int)) ∧ mz = m - k ∧ fz = (upd (upd (upd (upd (upd (upd (upd f0 1 (tV of)) 2 (tV name)) 8 (iV at0)) 9 (iV tb)) 12 (.slice a m c)) 13 (.int .i64 m)) 14 (.int .i64 k)) ∧ lz = S ++ F) ?_ ?_
 · refine ⟨_, _, ⟨_, 0, -1, 0, ⟨Nat.zero_le _, Nat.zero_le _, rfl, rfl⟩, rfl, (updS rfl (updS rfl (updS rfl (updS rfl (updS rfl (updS rfl (updS rfl rfl))))))), rfl⟩, Sub.any⟩
 ·
  rintro mz fz lz ⟨f0, k, at0, tb, ⟨hk, hh, hat0, htb⟩, hmz, rfl, rfl⟩
  subst mz
  try simp only [List.cons_append, List.nil_append]
  have htl := tabs_le sc of k
  refine T.seq ?_
  refine T.region ?_
  refine LW.q rfl (Qt.lss rfl rfl) ?_
  refine LW.done ?_
  refine T.seq ?_
  refine T.condP rfl (fun hlt => ?_) (fun hlt => ?_)
  ·
   obtain ⟨b, o, rfl, hr⟩ := h.at (sz := 3) coC_len (by omega)
   obtain ⟨q, hq⟩ : ∃ q, sc[k]? = some q := ⟨_, List.getElem?_eq_getElem (by omega)⟩
   have hq1 := hr k q hq
   refine T.skip ?_
   refine T.seq ?_
   refine T.block ?_
   refine T.seq ?_
   refine T.region ?_
   refine LW.q rfl (Qt.move rfl) ?_
   refine LW.q rfl (Qt.index _ (e := 31) (sz := 3) (by kernel_rfl) rfl rfl rfl (by omega)) ?_
   refine LW.q rfl (Qt.loadAggW [_, _, _] (by kernel_rfl) rfl (fun w ho => hq1 w (ho.map Sub.any))) ?_
   refine LW.e rfl (Ef.alloc [.string .empty, .string .empty, .int .i64 0] (by unfold zeroB; kernel_rfl) ?_)
   intro g11
   refine LW.q rfl (Qt.assign rfl) ?_
   refine LW.e0 rfl (Ef.store [_, _, _] (by kernel_rfl) rfl rfl rfl rfl (by simp) ?_)
   try simp only [splice, List.length_cons, List.length_nil, List.drop_succ_cons, List.cons_append, List.take_succ_cons, List.take_zero, List.drop_zero, List.nil_append, List.append_nil]
   refine LW.done ?_
   refine T.seq ?_
   refine T.seq ?_
   refine T.region ?_
   refine LW.q rfl (Qt.move rfl) ?_
   refine LW.q rfl (Qt.neqS rfl rfl) ?_
   refine LW.q rfl (Qt.move rfl) ?_
   refine LW.split (t := 21) rfl (fun hof => ?_) (fun hof => ?_)
   ·
    try replace hof := of_decide_eq_true hof
    refine LW.q rfl (Qt.fieldAddr0 (by kernel_rfl) rfl) ?_
    first | refine LW.q rfl (Qt.load (by kernel_rfl) rfl rfl) ?_ | refine LW.q rfl (Qt.load (by kernel_rfl) rfl (map_at _ _ _ (by omega))) ?_ | refine LW.q rfl (Qt.load (by kernel_rfl) rfl (flat_cell0 _ _ _ (by intros; rfl) _ (by omega) (by rfl))) ?_ | refine LW.q rfl (Qt.load (by kernel_rfl) rfl (flat_cell _ _ _ (by intros; rfl) _ _ (by omega) (by rfl))) ?_ | refine LW.q rfl (Qt.load (by kernel_rfl) rfl (bytes_at _ _ (by omega))) ?_
    refine LW.q rfl (Qt.move rfl) ?_
    refine LW.q rfl (Qt.neqS rfl rfl) ?_
    refine LW.q rfl (Qt.pick rfl rfl) ?_
    refine LW.done ?_
    refine T.condP rfl (fun hne => ?_) (fun hne => ?_)
    ·
     have hok : okT of q = false := by unfold okT; exact decide_eq_false (by rintro (e | e); exact hof e; exact hne e)
     have h1 : hits sc of name (k + 1) = hits sc of name k := by rw [hits_succ, hitB_eq hq, hok]; simp
     have h2 : tabs sc of (k + 1) = tabs sc of k := by rw [tabs_succ, tabB_eq hq, hok]; rfl
     refine T.exit ?_
     refine T.region ?_
     refine LW.q rfl (Qt.add rfl rfl (wr64 (by omega) (by omega))) ?_
     refine LW.q rfl (Qt.move rfl) ?_
     refine LW.done ?_
     refine ⟨_, ?_, _, ⟨_, k + 1, at0, tb, ⟨by omega, by rw [h1]; exact hh, by rw [h1]; exact hat0, by rw [h2]; exact htb⟩, rfl, (updS rfl (updS rfl (updS rfl (updS rfl (updS rfl (updS rfl (updS rfl rfl))))))), rfl⟩, Sub.any⟩
     first | omega | (simp; omega)
    ·
     have hok : okT of q = true := by unfold okT; exact decide_eq_true (.inr (Classical.not_not.1 hne))
     have h2 : tabs sc of (k + 1) = tabs sc of k + 1 := by rw [tabs_succ, tabB_eq hq, hok]; rfl
     refine T.skip ?_
     refine T.seq ?_
     refine T.region ?_
     refine LW.q rfl (Qt.move rfl) ?_
     refine LW.q rfl (Qt.add rfl rfl (wr64 (by omega) (by omega))) ?_
     refine LW.q rfl (Qt.assign rfl) ?_
     refine LW.done ?_
     refine T.block ?_
     refine T.seq ?_
     refine T.region ?_
     refine LW.q rfl (Qt.fieldAddr (off := 1) (by kernel_rfl) rfl) ?_
     refine LW.q rfl (Qt.fieldAddr0 (by kernel_rfl) rfl) ?_
     first | refine LW.q rfl (Qt.load (by kernel_rfl) rfl rfl) ?_ | refine LW.q rfl (Qt.load (by kernel_rfl) rfl (map_at _ _ _ (by omega))) ?_ | refine LW.q rfl (Qt.load (by kernel_rfl) rfl (flat_cell0 _ _ _ (by intros; rfl) _ (by omega) (by rfl))) ?_ | refine LW.q rfl (Qt.load (by kernel_rfl) rfl (flat_cell _ _ _ (by intros; rfl) _ _ (by omega) (by rfl))) ?_ | refine LW.q rfl (Qt.load (by kernel_rfl) rfl (bytes_at _ _ (by omega))) ?_
     refine LW.q rfl (Qt.move rfl) ?_
     refine LW.q rfl (Qt.neqS rfl rfl) ?_
     refine LW.q rfl (Qt.assign rfl) ?_
     refine LW.done ?_
     refine T.condP rfl (fun hnm => ?_) (fun hnm => ?_)
     ·
      have h1 : hits sc of name (k + 1) = hits sc of name k := by rw [hits_succ, hitB_eq hq, hok, decide_eq_false hnm]; simp
      refine T.skip ?_
      refine T.region ?_
      refine LW.q rfl (Qt.add rfl rfl (wr64 (by omega) (by omega))) ?_
      refine LW.q rfl (Qt.move rfl) ?_
      refine LW.done ?_
      refine ⟨_, ?_, _, ⟨_, k + 1, at0, tb + 1, ⟨by omega, by rw [h1]; exact hh, by rw [h1]; exact hat0, by rw [h2, htb]; rfl⟩, rfl, (updS rfl (updS rfl (updS rfl (updS rfl (updS rfl (updS rfl (updS rfl rfl))))))), rfl⟩, Sub.any⟩
      first | omega | (simp; omega)
     ·
      have h1 : hits sc of name (k + 1) = hits sc of name k ++ [k] := by rw [hits_succ, hitB_eq hq, hok, decide_eq_true (Classical.not_not.1 hnm)]; simp
      refine T.seq ?_
      refine T.region ?_
      refine LW.q rfl (Qt.move rfl) ?_
      refine LW.q rfl (Qt.geq rfl rfl) ?_
      refine LW.q rfl (Qt.assign rfl) ?_
      refine LW.done ?_
      refine T.condP rfl (fun hat => ?_) (fun hat => ?_)
      ·
       have h3 := hits_mono sc of name (k := k + 1) (m := sc.length) (by omega)
       have h4 : findC sc of name = (0, 173) := by
        unfold findC
        rw [if_pos]
        rw [h1, List.length_append] at h3
        cases e : hits sc of name k with
        | nil => rw [hat0, e] at hat; simp [headI] at hat
        | cons x r => rw [e] at h3; simp at h3; omega
       refine T.seq ?_
       refine T.region ?_
       refine LW.q rfl (Qt.assign rfl) ?_
       refine LW.q rfl (Qt.assign rfl) ?_
       refine LW.done ?_
       refine T.ret ?_
       exact ⟨.inl rfl, _, _, res [_, _] rfl ⟨rvT rfl, rvT rfl, trivial⟩, ⟨by rw [h4]; rfl, rfl⟩, Sub.any⟩
      ·
       have h3 : hits sc of name k = [] := by
        cases e : hits sc of name k with
        | nil => rfl
        | cons x r => rw [hat0, e] at hat; simp only [headI] at hat; omega
       refine T.region ?_
       refine LW.q rfl (Qt.move rfl) ?_
       refine LW.q rfl (Qt.assign rfl) ?_
       refine LW.done ?_
       refine T.region ?_
       refine LW.q rfl (Qt.add rfl rfl (wr64 (by omega) (by omega))) ?_
       refine LW.q rfl (Qt.move rfl) ?_
       refine LW.done ?_
       refine ⟨_, ?_, _, ⟨_, k + 1, k, tb + 1, ⟨by omega, by rw [h1, h3]; simp, by rw [h1, h3]; rfl, by rw [h2, htb]; rfl⟩, rfl, (updS rfl (updS rfl (updS rfl (updS rfl (updS rfl (updS rfl (updS rfl rfl))))))), rfl⟩, Sub.any⟩
       first | omega | (simp; omega)
   ·
    try replace hof := of_decide_eq_false hof
    refine LW.s rfl ?_
    refine LW.s rfl ?_
    refine LW.s rfl ?_
    refine LW.s rfl ?_
    refine LW.q rfl (Qt.pick rfl rfl) ?_
    refine LW.done ?_
    first | refine T.condF rfl ?_ | refine T.condPF rfl (rfl) ?_ | refine T.condBF rfl (rfl) ?_
    have hok : okT of q = true := by unfold okT; exact decide_eq_true (.inl (Classical.not_not.1 hof))
    have h2 : tabs sc of (k + 1) = tabs sc of k + 1 := by rw [tabs_succ, tabB_eq hq, hok]; rfl
    refine T.skip ?_
    refine T.seq ?_
    refine T.region ?_
    refine LW.q rfl (Qt.move rfl) ?_
    refine LW.q rfl (Qt.add rfl rfl (wr64 (by omega) (by omega))) ?_
    refine LW.q rfl (Qt.assign rfl) ?_
    refine LW.done ?_
    refine T.block ?_
    refine T.seq ?_
    refine T.region ?_
    refine LW.q rfl (Qt.fieldAddr (off := 1) (by kernel_rfl) rfl) ?_
    refine LW.q rfl (Qt.fieldAddr0 (by kernel_rfl) rfl) ?_
    first | refine LW.q rfl (Qt.load (by kernel_rfl) rfl rfl) ?_ | refine LW.q rfl (Qt.load (by kernel_rfl) rfl (map_at _ _ _ (by omega))) ?_ | refine LW.q rfl (Qt.load (by kernel_rfl) rfl (flat_cell0 _ _ _ (by intros; rfl) _ (by omega) (by rfl))) ?_ | refine LW.q rfl (Qt.load (by kernel_rfl) rfl (flat_cell _ _ _ (by intros; rfl) _ _ (by omega) (by rfl))) ?_ | refine LW.q rfl (Qt.load (by kernel_rfl) rfl (bytes_at _ _ (by omega))) ?_
    refine LW.q rfl (Qt.move rfl) ?_
    refine LW.q rfl (Qt.neqS rfl rfl) ?_
    refine LW.q rfl (Qt.assign rfl) ?_
    refine LW.done ?_
    refine T.condP rfl (fun hnm => ?_) (fun hnm => ?_)
    ·
     have h1 : hits sc of name (k + 1) = hits sc of name k := by rw [hits_succ, hitB_eq hq, hok, decide_eq_false hnm]; simp
     refine T.skip ?_
     refine T.region ?_
     refine LW.q rfl (Qt.add rfl rfl (wr64 (by omega) (by omega))) ?_
     refine LW.q rfl (Qt.move rfl) ?_
     refine LW.done ?_
     refine ⟨_, ?_, _, ⟨_, k + 1, at0, tb + 1, ⟨by omega, by rw [h1]; exact hh, by rw [h1]; exact hat0, by rw [h2, htb]; rfl⟩, rfl, (updS rfl (updS rfl (updS rfl (updS rfl (updS rfl (updS rfl (updS rfl rfl))))))), rfl⟩, Sub.any⟩
     first | omega | (simp; omega)
    ·
     have h1 : hits sc of name (k + 1) = hits sc of name k ++ [k] := by rw [hits_succ, hitB_eq hq, hok, decide_eq_true (Classical.not_not.1 hnm)]; simp
     refine T.seq ?_
     refine T.region ?_
     refine LW.q rfl (Qt.move rfl) ?_
     refine LW.q rfl (Qt.geq rfl rfl) ?_
     refine LW.q rfl (Qt.assign rfl) ?_
     refine LW.done ?_
     refine T.condP rfl (fun hat => ?_) (fun hat => ?_)
     ·
      have h3 := hits_mono sc of name (k := k + 1) (m := sc.length) (by omega)
      have h4 : findC sc of name = (0, 173) := by
       unfold findC
       rw [if_pos]
       rw [h1, List.length_append] at h3
       cases e : hits sc of name k with
       | nil => rw [hat0, e] at hat; simp [headI] at hat
       | cons x r => rw [e] at h3; simp at h3; omega
      refine T.seq ?_
      refine T.region ?_
      refine LW.q rfl (Qt.assign rfl) ?_
      refine LW.q rfl (Qt.assign rfl) ?_
      refine LW.done ?_
      refine T.ret ?_
      exact ⟨.inl rfl, _, _, res [_, _] rfl ⟨rvT rfl, rvT rfl, trivial⟩, ⟨by rw [h4]; rfl, rfl⟩, Sub.any⟩
     ·
      have h3 : hits sc of name k = [] := by
       cases e : hits sc of name k with
       | nil => rfl
       | cons x r => rw [hat0, e] at hat; simp only [headI] at hat; omega
      refine T.region ?_
      refine LW.q rfl (Qt.move rfl) ?_
      refine LW.q rfl (Qt.assign rfl) ?_
      refine LW.done ?_
      refine T.region ?_
      refine LW.q rfl (Qt.add rfl rfl (wr64 (by omega) (by omega))) ?_
      refine LW.q rfl (Qt.move rfl) ?_
      refine LW.done ?_
      refine ⟨_, ?_, _, ⟨_, k + 1, k, tb + 1, ⟨by omega, by rw [h1, h3]; simp, by rw [h1, h3]; rfl, by rw [h2, htb]; rfl⟩, rfl, (updS rfl (updS rfl (updS rfl (updS rfl (updS rfl (updS rfl (updS rfl rfl))))))), rfl⟩, Sub.any⟩
      first | omega | (simp; omega)
  ·
   obtain rfl : m = k := by omega
   refine T.exit ?_
   refine T.seq ?_
   refine T.block ?_
   refine T.seq ?_
   refine T.region ?_
   refine LW.q rfl (Qt.move rfl) ?_
   refine LW.q rfl (Qt.neqS rfl rfl) ?_
   refine LW.q rfl (Qt.move rfl) ?_
   refine LW.split (t := 43) rfl (fun hof => ?_) (fun hof => ?_)
   ·
    try replace hof := of_decide_eq_true hof
    refine LW.q rfl (Qt.move rfl) ?_
    refine LW.q rfl (Qt.eql rfl rfl) ?_
    refine LW.q rfl (Qt.pick rfl rfl) ?_
    refine LW.q rfl (Qt.assign rfl) ?_
    refine LW.done ?_
    refine T.condP rfl (fun ht => ?_) (fun ht => ?_)
    ·
     have h4 : findC sc of name = (0, 160) := by unfold findC; rw [hm, if_neg (by omega), if_pos ⟨hof, by omega⟩]
     refine T.seq ?_
     refine T.region ?_
     refine LW.q rfl (Qt.assign rfl) ?_
     refine LW.q rfl (Qt.assign rfl) ?_
     refine LW.done ?_
     refine T.ret ?_
     exact ⟨.inl rfl, _, _, res [_, _] rfl ⟨rvT rfl, rvT rfl, trivial⟩, ⟨by rw [h4]; rfl, rfl⟩, Sub.any⟩
    ·
     have hnt : ¬ (of ≠ [] ∧ tabs sc of sc.length = 0) := by rw [hm]; omega
     refine T.seq ?_
     refine T.region ?_
     refine LW.q rfl (Qt.move rfl) ?_
     refine LW.q rfl (Qt.lss rfl rfl) ?_
     refine LW.q rfl (Qt.assign rfl) ?_
     refine LW.done ?_
     refine T.condP rfl (fun hat => ?_) (fun hat => ?_)
     ·
      have h4 : findC sc of name = (0, 161) := by
       unfold findC
       rw [if_neg (by rw [hm]; omega), if_neg hnt]
       rw [hm]
       cases e : hits sc of name m with
       | nil => rfl
       | cons x r => rw [hat0, e] at hat; simp only [headI] at hat; omega
      refine T.seq ?_
      refine T.region ?_
      refine LW.q rfl (Qt.assign rfl) ?_
      refine LW.q rfl (Qt.assign rfl) ?_
      refine LW.done ?_
      refine T.ret ?_
      exact ⟨.inl rfl, _, _, res [_, _] rfl ⟨rvT rfl, rvT rfl, trivial⟩, ⟨by rw [h4]; rfl, rfl⟩, Sub.any⟩
     ·
      have h4 : iV (findC sc of name).1 = iV (headI (hits sc of name m)) ∧ (findC sc of name).2 = 0 := by
       unfold findC
       rw [if_neg (by rw [hm]; omega), if_neg hnt]
       rw [hm]
       cases e : hits sc of name m with
       | nil => rw [hat0, e] at hat; simp [headI] at hat
       | cons x r => exact ⟨rfl, rfl⟩
      refine T.skip ?_
      refine T.seq ?_
      refine T.region ?_
      refine LW.q rfl (Qt.move rfl) ?_
      refine LW.q rfl (Qt.assign rfl) ?_
      refine LW.q rfl (Qt.assign rfl) ?_
      refine LW.done ?_
      refine T.ret ?_
      exact ⟨.inl rfl, _, _, res [_, _] rfl ⟨rvT rfl, rvT rfl, trivial⟩, ⟨by rw [h4.1, h4.2, ← hat0]; rfl, rfl⟩, Sub.any⟩
   ·
    try replace hof := of_decide_eq_false hof
    refine LW.s rfl ?_
    refine LW.s rfl ?_
    refine LW.q rfl (Qt.pick rfl rfl) ?_
    refine LW.q rfl (Qt.assign rfl) ?_
    refine LW.done ?_
    first | refine T.condF rfl ?_ | refine T.condPF rfl (rfl) ?_ | refine T.condBF rfl (rfl) ?_
    have hnt : ¬ (of ≠ [] ∧ tabs sc of sc.length = 0) := fun e => hof e.1
    refine T.seq ?_
    refine T.region ?_
    refine LW.q rfl (Qt.move rfl) ?_
    refine LW.q rfl (Qt.lss rfl rfl) ?_
    refine LW.q rfl (Qt.assign rfl) ?_
    refine LW.done ?_
    refine T.condP rfl (fun hat => ?_) (fun hat => ?_)
    ·
     have h4 : findC sc of name = (0, 161) := by
      unfold findC
      rw [if_neg (by rw [hm]; omega), if_neg hnt]
      rw [hm]
      cases e : hits sc of name m with
      | nil => rfl
      | cons x r => rw [hat0, e] at hat; simp only [headI] at hat; omega
     refine T.seq ?_
     refine T.region ?_
     refine LW.q rfl (Qt.assign rfl) ?_
     refine LW.q rfl (Qt.assign rfl) ?_
     refine LW.done ?_
     refine T.ret ?_
     exact ⟨.inl rfl, _, _, res [_, _] rfl ⟨rvT rfl, rvT rfl, trivial⟩, ⟨by rw [h4]; rfl, rfl⟩, Sub.any⟩
    ·
     have h4 : iV (findC sc of name).1 = iV (headI (hits sc of name m)) ∧ (findC sc of name).2 = 0 := by
      unfold findC
      rw [if_neg (by rw [hm]; omega), if_neg hnt]
      rw [hm]
      cases e : hits sc of name m with
      | nil => rw [hat0, e] at hat; simp [headI] at hat
      | cons x r => exact ⟨rfl, rfl⟩
     refine T.skip ?_
     refine T.seq ?_
     refine T.region ?_
     refine LW.q rfl (Qt.move rfl) ?_
     refine LW.q rfl (Qt.assign rfl) ?_
     refine LW.q rfl (Qt.assign rfl) ?_
     refine LW.done ?_
     refine T.ret ?_
     exact ⟨.inl rfl, _, _, res [_, _] rfl ⟨rvT rfl, rvT rfl, trivial⟩, ⟨by rw [h4.1, h4.2, ← hat0]; rfl, rfl⟩, Sub.any⟩
end Go.Proofs.Ytopbkdpbljebgaa

/- The package bind: terms and expressions as they lie in memory; kind, Bind. Conditions: that what is handed in can be read; sizes. -/
set_option linter.unusedSimpArgs false
set_option linter.unusedVariables false
namespace Go.Proofs.Ytopbkdpbljebgaa
open Go.RowKit

/-! the cells of a term, of an expression, of a value -/
structure C7 where (op kind vkind vint vtext place args : Value)
abbrev c7 (c : C7) : List Value := [c.op, c.kind, c.vkind, c.vint, c.vtext, c.place, c.args]
abbrev tA (c : C7) : Value := .agg #[c.op, c.kind, c.vkind, c.vint, c.vtext, c.place, c.args]
structure C5 where (op n text of args : Value)
abbrev c5 (c : C5) : List Value := [c.op, c.n, c.text, c.of, c.args]
abbrev eA (c : C5) : Value := .agg #[c.op, c.n, c.text, c.of, c.args]
structure Va where
  kind : Int
  int : Int
  text : Str
abbrev vaC (v : Va) : List Value := [iV v.kind, iV v.int, tV v.text]
abbrev vA (v : Va) : Value := .agg #[iV v.kind, iV v.int, tV v.text]
def vZ : Va := ⟨0, 0, []⟩

inductive Ex where
  | mk (op : Str) (n : Int) (text of : Str) (args : List Ex)
inductive Tm where
  | mk (op : Str) (kind : Int) (v : Va) (place : Int) (args : List Tm)
def Tm.op : Tm → Str | .mk op _ _ _ _ => op
def Tm.kind : Tm → Int | .mk _ k _ _ _ => k
def Tm.v : Tm → Va | .mk _ _ v _ _ => v
def Tm.place : Tm → Int | .mk _ _ _ p _ => p
def Tm.args : Tm → List Tm | .mk _ _ _ _ a => a

/-- A term that can be read. -/
inductive TmV (B : Base) (S : List Assn) : Tm → C7 → Prop
  | mk (op : Str) (k : Int) (v : Va) (p : Int) (args : List Tm) (av : Value) (css : List C7) (hf : FlV B S c7 av css) (hl : css.length = args.length) (hb : args.length < 2 ^ 32)
      (hc : ∀ (i : Nat) (t : Tm) (c : C7), args[i]? = some t → css[i]? = some c → TmV B S t c) : TmV B S (.mk op k v p args) ⟨tV op, iV k, iV v.kind, iV v.int, tV v.text, iV p, av⟩
/-- An expression that can be read. -/
inductive ExV (B : Base) (S : List Assn) : Ex → C5 → Prop
  | mk (op : Str) (n : Int) (text of : Str) (args : List Ex) (av : Value) (css : List C5) (hf : FlV B S c5 av css) (hl : css.length = args.length) (hb : args.length < 2 ^ 32) (ht : text.length < 2 ^ 40)
      (hc : ∀ (i : Nat) (t : Ex) (c : C5), args[i]? = some t → css[i]? = some c → ExV B S t c) : ExV B S (.mk op n text of args) ⟨tV op, iV n, tV text, tV of, av⟩
section
variable {B : Base} {S S' : List Assn}
theorem TmV.mono {t : Tm} {c : C7} (h : TmV B S t c) (hs : ∀ w, Own B w S' → Own B w S) : TmV B S' t c := by
  induction h with
  | mk op k v p args av css hf hl hb hc ih => exact .mk op k v p args av css (hf.mono hs) hl hb ih
theorem ExV.mono {t : Ex} {c : C5} (h : ExV B S t c) (hs : ∀ w, Own B w S' → Own B w S) : ExV B S' t c := by
  induction h with
  | mk op n text of args av css hf hl hb ht hc ih => exact .mk op n text of args av css (hf.mono hs) hl hb ht ih
theorem TmV.sub {t : Tm} {c : C7} (h : TmV B S t c) (hs : Sub S' S) : TmV B S' t c := h.mono fun _ ho => ho.map hs
end

def alls (k : Int) (ks : List Int) : Bool := ks.all fun x => decide (x = k)
theorem alls_succ {k : Int} {ks : List Int} {i : Nat} {x : Int} (h : ks[i]? = some x) : alls k (ks.take (i + 1)) = (alls k (ks.take i) && decide (x = k)) := by
  unfold alls
  rw [List.take_add_one, h, List.all_append]
  simp
theorem alls_false {k : Int} {ks : List Int} {i : Nat} {x : Int} (h : ks[i]? = some x) (hx : x ≠ k) : alls k ks = false := by
  unfold alls
  rw [List.all_eq_false]
  exact ⟨x, List.mem_of_getElem? h, by simpa using hx⟩
/-- The kinds of terms. -/
def KsV (css : List C7) (ks : List Int) : Prop := ks.length = css.length ∧ ∀ (i : Nat) (c : C7), css[i]? = some c → ∃ k, ks[i]? = some k ∧ c.kind = iV k

theorem Bd.neK (B : Base) (g : Nat) (c : C7) (k kc : Int) (h : c.kind = iV kc) : Fn Try.prog B 30 #[tA c, .pointer (some ⟨g, 0, none⟩)] [blk g [iV k] 3] (fun u l => u = .bool (decide (kc ≠ k)) ∧ l = [blk g [iV k] 3]) := by
  obtain ⟨op, kind, vk, vi, vt, pl, ar⟩ := c
  dsimp only at h
  subst h
  refine Fn.enter2 8 Try.func30 rfl rfl (Nat.le_of_ble_eq_true rfl) (fun F => ?_)
  try simp only [List.cons_append, List.nil_append]
  refine T.seq ?_
  refine T.region ?_
  refine LW.e rfl (Ef.box [_, _, _, _, _, _, _] rfl rfl ?_)
  intro g2
  refine LW.q rfl (Qt.assign rfl) ?_
  refine LW.done ?_
  refine T.seq ?_
  refine T.region ?_
  refine LW.q rfl (Qt.fieldAddr (off := 1) (by kernel_rfl) rfl) ?_
  first | refine LW.q rfl (Qt.load (by kernel_rfl) rfl rfl) ?_ | refine LW.q rfl (Qt.load (by kernel_rfl) rfl (map_at _ _ _ (by omega))) ?_ | refine LW.q rfl (Qt.load (by kernel_rfl) rfl (flat_cell0 _ _ _ (by intros; rfl) _ (by omega) (by rfl))) ?_ | refine LW.q rfl (Qt.load (by kernel_rfl) rfl (flat_cell _ _ _ (by intros; rfl) _ _ (by omega) (by rfl))) ?_ | refine LW.q rfl (Qt.load (by kernel_rfl) rfl (bytes_at _ _ (by omega))) ?_
  first | refine LW.q rfl (Qt.load (by kernel_rfl) rfl rfl) ?_ | refine LW.q rfl (Qt.load (by kernel_rfl) rfl (map_at _ _ _ (by omega))) ?_ | refine LW.q rfl (Qt.load (by kernel_rfl) rfl (flat_cell0 _ _ _ (by intros; rfl) _ (by omega) (by rfl))) ?_ | refine LW.q rfl (Qt.load (by kernel_rfl) rfl (flat_cell _ _ _ (by intros; rfl) _ _ (by omega) (by rfl))) ?_ | refine LW.q rfl (Qt.load (by kernel_rfl) rfl (bytes_at _ _ (by omega))) ?_
  refine LW.q rfl (Qt.neq rfl rfl) ?_
  refine LW.q rfl (Qt.assign rfl) ?_
  refine LW.done ?_
  refine T.ret ?_
  exact ⟨.inl rfl, _, _, res [_] rfl ⟨rvT rfl, trivial⟩, ⟨rfl, rfl⟩, Sub.any⟩
theorem Bd.indexK (B : Base) (S : List Assn) (g : Nat) (a : Option Addr) (m c : Nat) (css : List C7) (ks : List Int) (k : Int) (h : FlV B S c7 (.slice a m c) css) (hm : css.length = m) (hn : m < 2 ^ 32) (hk : KsV css ks) : Fn Try.prog B 37 #[.slice a m c, .func (.func 30) #[] #[.pointer (some ⟨g, 0, none⟩)]] (blk g [iV k] 3 :: S) (fun u l => (∃ r : Int, u = iV r ∧ decide (0 ≤ r) = !alls k ks) ∧ l = blk g [iV k] 3 :: S) := by
 refine Fn.enter2 19 Try.func37 rfl rfl (Nat.le_of_ble_eq_true rfl) (fun F => ?_)
 try simp only [List.cons_append, List.nil_append]
 refine T.seq ?_
 refine T.region ?_
 refine LW.q rfl (Qt.assign rfl) ?_
 refine LW.done ?_
 refine T.seq ?_
 refine T.seq ?_
 refine T.region ?_
 refine LW.q rfl (Qt.move rfl) ?_
 refine LW.q rfl (Qt.len (e := 58) (sz := 7) (by kernel_rfl) rfl) ?_
 refine LW.q rfl (Qt.move rfl) ?_
 refine LW.done ?_
 refine T.block ?_
 refine T.loop (fun mz fz lz => ∃ (f0 : Fr) (i : Nat), (i ≤ m ∧ alls k (ks.take i) = true) ∧ mz = m - i ∧ fz = (upd (upd (upd (upd (upd f0 0 (.slice a m c)) 1 (.func (.func 30) #[] #[.pointer (some ⟨g, 0, none⟩)])) 6 (.slice a m c)) 7 (.int .i64 m)) 8 (.int .i64 i)) ∧ lz = blk g [iV k] 3 :: (S ++ F)) ?_ ?_
 · refine ⟨_, _, ⟨_, 0, ⟨Nat.zero_le _, rfl⟩, rfl, (updS rfl (updS rfl (updS rfl (updS rfl (updS rfl rfl))))), rfl⟩, Sub.any⟩
 ·
  rintro mz fz lz ⟨f0, i, ⟨hi, ha⟩, hmz, rfl, rfl⟩
  subst mz
  try simp only [List.cons_append, List.nil_append]
  refine T.seq ?_
  refine T.region ?_
  refine LW.q rfl (Qt.lss rfl rfl) ?_
  refine LW.done ?_
  refine T.seq ?_
  refine T.condP rfl (fun hlt => ?_) (fun hlt => ?_)
  ·
   obtain ⟨b, o, rfl, hr⟩ := h.at (sz := 7) (fun _ => rfl) (by omega)
   obtain ⟨q, hq⟩ : ∃ q, css[i]? = some q := ⟨_, List.getElem?_eq_getElem (by omega)⟩
   obtain ⟨kc, hkc, hqk⟩ := hk.2 i q hq
   have hq1 := hr i q hq
   refine T.skip ?_
   refine T.seq ?_
   refine T.block ?_
   refine T.seq ?_
   refine T.region ?_
   refine LW.q rfl (Qt.move rfl) ?_
   refine LW.q rfl (Qt.assign rfl) ?_
   refine LW.done ?_
   refine T.seq ?_
   refine T.region ?_
   refine LW.q rfl (Qt.move rfl) ?_
   refine LW.q rfl (Qt.move rfl) ?_
   refine LW.q rfl (Qt.move rfl) ?_
   refine LW.q rfl (Qt.index _ (e := 58) (sz := 7) (by kernel_rfl) rfl rfl rfl (by omega)) ?_
   refine LW.q rfl (Qt.loadAggW (c7 q) (by kernel_rfl) rfl (fun w ho => hq1 w (ho.map Sub.any))) ?_
   refine LW.e rfl (Ef.callC [tA q] [.pointer (some ⟨g, 0, none⟩)] (Bd.neK B g q k kc hqk) Try.func30 rfl rfl rfl rfl rfl ?_)
   rintro _ _ ⟨rfl, rfl⟩
   try simp only [List.cons_append, List.nil_append]
   refine LW.done ?_
   refine T.condP rfl (fun hne => ?_) (fun hne => ?_)
   ·
    refine T.seq ?_
    refine T.region ?_
    refine LW.q rfl (Qt.move rfl) ?_
    refine LW.q rfl (Qt.assign rfl) ?_
    refine LW.done ?_
    refine T.ret ?_
    exact ⟨.inl rfl, _, _, res [_] rfl ⟨rvT rfl, trivial⟩, ⟨⟨i, rfl, by rw [alls_false hkc hne]; exact decide_eq_true (by omega)⟩, rfl⟩, Sub.any⟩
   ·
    refine T.skip ?_
    refine T.region ?_
    refine LW.q rfl (Qt.add rfl rfl (wr64 (by omega) (by omega))) ?_
    refine LW.q rfl (Qt.move rfl) ?_
    refine LW.done ?_
    refine ⟨_, ?_, _, ⟨_, i + 1, ⟨by omega, by rw [alls_succ hkc, ha, decide_eq_true (Classical.not_not.1 hne)]; rfl⟩, rfl, (updS rfl (updS rfl (updS rfl (updS rfl (updS rfl rfl))))), rfl⟩, Sub.any⟩
    first | omega | (simp; omega)
  ·
   obtain rfl : m = i := by omega
   rw [List.take_of_length_le (by rw [hk.1, hm]; exact Nat.le_refl _)] at ha
   refine T.exit ?_
   refine T.seq ?_
   refine T.region ?_
   refine LW.q rfl (Qt.assign rfl) ?_
   refine LW.done ?_
   refine T.ret ?_
   exact ⟨.inl rfl, _, _, res [_] rfl ⟨rvT rfl, trivial⟩, ⟨⟨-1, rfl, by rw [ha]; rfl⟩, rfl⟩, Sub.any⟩
theorem Bd.containsK (B : Base) (S : List Assn) (g : Nat) (a : Option Addr) (m c : Nat) (css : List C7) (ks : List Int) (k : Int) (h : FlV B S c7 (.slice a m c) css) (hm : css.length = m) (hn : m < 2 ^ 32) (hk : KsV css ks) : Fn Try.prog B 29 #[.slice a m c, .func (.func 30) #[] #[.pointer (some ⟨g, 0, none⟩)]] (blk g [iV k] 3 :: S) (fun u l => u = .bool (!alls k ks) ∧ l = blk g [iV k] 3 :: S) := by
  refine Fn.enter2 9 Try.func29 rfl rfl (Nat.le_of_ble_eq_true rfl) (fun F => ?_)
  try simp only [List.cons_append, List.nil_append]
  refine T.seq ?_
  refine T.region ?_
  refine LW.q rfl (Qt.assign rfl) ?_
  refine LW.done ?_
  refine T.seq ?_
  refine T.region ?_
  refine LW.q rfl (Qt.move rfl) ?_
  refine LW.q rfl (Qt.move rfl) ?_
  refine LW.e rfl (Ef.call (Bd.indexK B S g a m c css ks k h hm hn hk) Try.func37 rfl rfl rfl ?_)
  rintro _ _ ⟨⟨r, rfl, hr⟩, rfl⟩
  try simp only [List.cons_append, List.nil_append]
  refine LW.q rfl (Qt.geq rfl rfl) ?_
  refine LW.q rfl (Qt.assign rfl) ?_
  refine LW.done ?_
  rw [← hr]
  refine T.ret ?_
  exact ⟨.inl rfl, _, _, res [_] rfl ⟨rvT rfl, trivial⟩, ⟨rfl, rfl⟩, Sub.any⟩
theorem Bd.allK (B : Base) (S : List Assn) (g : Nat) (a : Option Addr) (m c : Nat) (css : List C7) (ks : List Int) (k : Int) (h : FlV B S c7 (.slice a m c) css) (hm : css.length = m) (hn : m < 2 ^ 32) (hk : KsV css ks) : Fn Try.prog B 28 #[iV k, .pointer (some ⟨g, 0, none⟩)] (blk g [.slice a m c] 56 :: S) (fun u l => u = .bool (alls k ks) ∧ l = blk g [.slice a m c] 56 :: S) := by
  refine Fn.enter2 8 Try.func28 rfl rfl (Nat.le_of_ble_eq_true rfl) (fun F => ?_)
  try simp only [List.cons_append, List.nil_append]
  refine T.seq ?_
  refine T.region ?_
  refine LW.e rfl (Ef.box [_] rfl rfl ?_)
  intro g2
  refine LW.q rfl (Qt.assign rfl) ?_
  refine LW.done ?_
  refine T.seq ?_
  refine T.region ?_
  first | refine LW.q rfl (Qt.load (by kernel_rfl) rfl rfl) ?_ | refine LW.q rfl (Qt.load (by kernel_rfl) rfl (map_at _ _ _ (by omega))) ?_ | refine LW.q rfl (Qt.load (by kernel_rfl) rfl (flat_cell0 _ _ _ (by intros; rfl) _ (by omega) (by rfl))) ?_ | refine LW.q rfl (Qt.load (by kernel_rfl) rfl (flat_cell _ _ _ (by intros; rfl) _ _ (by omega) (by rfl))) ?_ | refine LW.q rfl (Qt.load (by kernel_rfl) rfl (bytes_at _ _ (by omega))) ?_
  refine LW.q rfl (Qt.makeFunc [_] rfl) ?_
  refine LW.e rfl (Ef.call (Bd.containsK B S g2 a m c css ks k h hm hn hk) Try.func29 rfl rfl rfl ?_)
  rintro _ _ ⟨rfl, rfl⟩
  try simp only [List.cons_append, List.nil_append]
  first | refine LW.q rfl (Qt.notP rfl) ?_ | refine LW.q rfl (Qt.notB rfl) ?_
  refine LW.q rfl (Qt.assign rfl) ?_
  refine LW.done ?_
  rw [show (!alls k ks) = !alls k ks from rfl]
  refine T.ret ?_
  exact ⟨.inl rfl, _, _, res [_] rfl ⟨rvT rfl, trivial⟩, ⟨by simp [outV], rfl⟩, Sub.any⟩
end Go.Proofs.Ytopbkdpbljebgaa

/- The package bind: kind. Conditions: that what is handed in can be read; sizes. -/
set_option linter.unusedSimpArgs false
set_option linter.unusedVariables false
namespace Go.Proofs.Ytopbkdpbljebgaa
open Go.RowKit

abbrev cmpOp (op : Str) : Prop := op = [61] ∨ op = [60, 62] ∨ op = [60, 61] ∨ op = [62, 61] ∨ op = [60] ∨ op = [62]
/-- The kind of an operator's value, and whether its operands' kinds are right. -/
def kindP (op : Str) (ks : List Int) : Int × Bool :=
  if op = [79, 82] ∨ op = [65, 78, 68] then (3, decide ((ks.length : Int) = 2) && alls 3 ks)
  else if op = [78, 79, 84] then (3, decide ((ks.length : Int) = 1) && alls 3 ks)
  else if cmpOp op then (3, decide ((ks.length : Int) = 2) && (alls 1 ks || alls 2 ks))
  else if op = [45] then (1, (decide ((ks.length : Int) = 1) || decide ((ks.length : Int) = 2)) && alls 1 ks)
  else if op = [43] ∨ op = [42] then (1, decide ((ks.length : Int) = 2) && alls 1 ks)
  else (0, false)
abbrev kClo (g : Nat) : Value := .func (.func 28) #[] #[.pointer (some ⟨g, 0, none⟩)]
set_option maxHeartbeats 1000000 in
theorem Bd.kind (B : Base) (S : List Assn) (op : Str) (a : Option Addr) (m c : Nat) (css : List C7) (ks : List Int) (h : FlV B S c7 (.slice a m c) css) (hm : css.length = m) (hn : m < 2 ^ 32) (hk : KsV css ks) : Fn Try.prog B 24 #[tV op, .slice a m c] S (fun u l => u = .tuple #[iV (kindP op ks).1, .bool (kindP op ks).2] ∧ l = S) := by
 have hkl : ks.length = m := hk.1.trans hm
 refine Fn.enter2 70 Try.func24 rfl rfl (Nat.le_of_ble_eq_true rfl) (fun F => ?_)
 try simp only [List.cons_append, List.nil_append]
 refine T.seq ?_
 refine T.region ?_
 refine LW.e rfl (Ef.box [_] rfl rfl ?_)
 intro g3
 refine LW.q rfl (Qt.assign rfl) ?_
 refine LW.q rfl (Qt.assign rfl) ?_
 refine LW.done ?_
 refine T.seq ?_
 refine T.region ?_
 refine LW.q rfl (Qt.makeFunc [_] rfl) ?_
 refine LW.q rfl (Qt.assign rfl) ?_
 refine LW.done ?_
 refine T.seq ?_
 refine T.seq ?_
 refine T.region ?_
 refine LW.q rfl (Qt.move rfl) ?_
 refine LW.done ?_
 refine T.block ?_
 refine T.cut (fun fz lz => ∃ (f0 : Fr) (b9 : Bool), (b9 = true ↔ (op = [79, 82] ∨ op = [65, 78, 68])) ∧ fz = (upd (upd (upd (upd f0 3 (.pointer (some ⟨g3, 0, none⟩))) 6 (kClo g3)) 8 (tV op)) 9 (.bool b9)) ∧ lz = blk g3 [.slice a m c] 56 :: (S ++ F)) ?_ ?_
 ·
  refine T.seq ?_
  refine T.region ?_
  refine LW.q rfl (Qt.eqlS rfl rfl) ?_
  refine LW.q rfl (Qt.assign rfl) ?_
  refine LW.done ?_
  refine T.condP rfl (fun h1 => ?_) (fun h1 => ?_)
  ·
   refine T.skip ?_
   exact ⟨_, ⟨_, decide (op = [79, 82]), by simp [h1], (updS rfl (updS rfl (updS rfl (updS rfl rfl)))), rfl⟩, Sub.any⟩
  ·
   refine T.region ?_
   refine LW.q rfl (Qt.eqlS rfl rfl) ?_
   refine LW.q rfl (Qt.assign rfl) ?_
   refine LW.done ?_
   exact ⟨_, ⟨_, decide (op = [65, 78, 68]), by simp [h1], (updS rfl (updS rfl (updS rfl (updS rfl rfl)))), rfl⟩, Sub.any⟩
 rintro fz lz ⟨f0, b9, h9, rfl, rfl⟩
 try simp only [List.cons_append, List.nil_append]
 refine T.cond rfl (fun h1 => ?_) (fun h1 => ?_)
 ·
  have hkp : kindP op ks = (3, decide ((m : Int) = 2) && alls 3 ks) := by unfold kindP; rw [if_pos (h9.1 h1), hkl]
  refine T.seq ?_
  refine T.region ?_
  first | refine LW.q rfl (Qt.load (by kernel_rfl) rfl rfl) ?_ | refine LW.q rfl (Qt.load (by kernel_rfl) rfl (map_at _ _ _ (by omega))) ?_ | refine LW.q rfl (Qt.load (by kernel_rfl) rfl (flat_cell0 _ _ _ (by intros; rfl) _ (by omega) (by rfl))) ?_ | refine LW.q rfl (Qt.load (by kernel_rfl) rfl (flat_cell _ _ _ (by intros; rfl) _ _ (by omega) (by rfl))) ?_ | refine LW.q rfl (Qt.load (by kernel_rfl) rfl (bytes_at _ _ (by omega))) ?_
  refine LW.q rfl (Qt.len (e := 58) (sz := 7) (by kernel_rfl) rfl) ?_
  refine LW.q rfl (Qt.eql rfl rfl) ?_
  refine LW.q rfl (Qt.move rfl) ?_
  refine LW.split (t := 15) rfl (fun hl => ?_) (fun hl => ?_)
  ·
   try replace hl := of_decide_eq_true hl
   refine LW.q rfl (Qt.move rfl) ?_
   refine LW.e rfl (Ef.callC [iV 3] [.pointer (some ⟨g3, 0, none⟩)] (Bd.allK B S g3 a m c css ks 3 h hm hn hk) Try.func28 rfl rfl rfl rfl rfl ?_)
   rintro _ _ ⟨rfl, rfl⟩
   try simp only [List.cons_append, List.nil_append]
   refine LW.q rfl (Qt.pick rfl rfl) ?_
   refine LW.q rfl (Qt.assign rfl) ?_
   refine LW.q rfl (Qt.assign rfl) ?_
   refine LW.done ?_
   refine T.ret ?_
   exact ⟨.inl rfl, _, _, res [_, _] rfl ⟨rvT rfl, rvT rfl, trivial⟩, ⟨by rw [hkp, decide_eq_true hl]; rfl, rfl⟩, Sub.any⟩
  ·
   try replace hl := of_decide_eq_false hl
   refine LW.s rfl ?_
   refine LW.s rfl ?_
   refine LW.q rfl (Qt.pick rfl rfl) ?_
   refine LW.q rfl (Qt.assign rfl) ?_
   refine LW.q rfl (Qt.assign rfl) ?_
   refine LW.done ?_
   refine T.ret ?_
   exact ⟨.inl rfl, _, _, res [_, _] rfl ⟨rvT rfl, rvT rfl, trivial⟩, ⟨by rw [hkp, decide_eq_false hl]; rfl, rfl⟩, Sub.any⟩
 ·
  have h9n : ¬ (op = [79, 82] ∨ op = [65, 78, 68]) := fun e => by rw [h9.2 e] at h1; cases h1
  refine T.seq ?_
  refine T.region ?_
  refine LW.q rfl (Qt.eqlS rfl rfl) ?_
  refine LW.q rfl (Qt.assign rfl) ?_
  refine LW.done ?_
  refine T.condP rfl (fun h2 => ?_) (fun h2 => ?_)
  ·
   have hkp : kindP op ks = (3, decide ((m : Int) = 1) && alls 3 ks) := by unfold kindP; rw [if_neg h9n, if_pos h2, hkl]
   refine T.seq ?_
   refine T.region ?_
   first | refine LW.q rfl (Qt.load (by kernel_rfl) rfl rfl) ?_ | refine LW.q rfl (Qt.load (by kernel_rfl) rfl (map_at _ _ _ (by omega))) ?_ | refine LW.q rfl (Qt.load (by kernel_rfl) rfl (flat_cell0 _ _ _ (by intros; rfl) _ (by omega) (by rfl))) ?_ | refine LW.q rfl (Qt.load (by kernel_rfl) rfl (flat_cell _ _ _ (by intros; rfl) _ _ (by omega) (by rfl))) ?_ | refine LW.q rfl (Qt.load (by kernel_rfl) rfl (bytes_at _ _ (by omega))) ?_
   refine LW.q rfl (Qt.len (e := 58) (sz := 7) (by kernel_rfl) rfl) ?_
   refine LW.q rfl (Qt.eql rfl rfl) ?_
   refine LW.q rfl (Qt.move rfl) ?_
   refine LW.split (t := 24) rfl (fun hl => ?_) (fun hl => ?_)
   ·
    try replace hl := of_decide_eq_true hl
    refine LW.q rfl (Qt.move rfl) ?_
    refine LW.e rfl (Ef.callC [iV 3] [.pointer (some ⟨g3, 0, none⟩)] (Bd.allK B S g3 a m c css ks 3 h hm hn hk) Try.func28 rfl rfl rfl rfl rfl ?_)
    rintro _ _ ⟨rfl, rfl⟩
    try simp only [List.cons_append, List.nil_append]
    refine LW.q rfl (Qt.pick rfl rfl) ?_
    refine LW.q rfl (Qt.assign rfl) ?_
    refine LW.q rfl (Qt.assign rfl) ?_
    refine LW.done ?_
    refine T.ret ?_
    exact ⟨.inl rfl, _, _, res [_, _] rfl ⟨rvT rfl, rvT rfl, trivial⟩, ⟨by rw [hkp, decide_eq_true hl]; rfl, rfl⟩, Sub.any⟩
   ·
    try replace hl := of_decide_eq_false hl
    refine LW.s rfl ?_
    refine LW.s rfl ?_
    refine LW.q rfl (Qt.pick rfl rfl) ?_
    refine LW.q rfl (Qt.assign rfl) ?_
    refine LW.q rfl (Qt.assign rfl) ?_
    refine LW.done ?_
    refine T.ret ?_
    exact ⟨.inl rfl, _, _, res [_, _] rfl ⟨rvT rfl, rvT rfl, trivial⟩, ⟨by rw [hkp, decide_eq_false hl]; rfl, rfl⟩, Sub.any⟩
  ·
   refine T.cut (fun fz lz => ∃ (f0 : Fr) (b28 : Bool), (b28 = true ↔ cmpOp op) ∧ fz = (upd (upd (upd (upd f0 3 (.pointer (some ⟨g3, 0, none⟩))) 6 (kClo g3)) 8 (tV op)) 28 (.bool b28)) ∧ lz = blk g3 [.slice a m c] 56 :: (S ++ F)) ?_ ?_
   ·
    refine T.seq ?_
    refine T.region ?_
    refine LW.q rfl (Qt.eqlS rfl rfl) ?_
    refine LW.q rfl (Qt.assign rfl) ?_
    refine LW.done ?_
    refine T.condP rfl (fun e1 => ?_) (fun e1 => ?_)
    ·
     refine T.skip ?_
     exact ⟨_, ⟨_, decide (op = [61]), by simp [e1, cmpOp], (updS rfl (updS rfl (updS rfl (updS rfl rfl)))), rfl⟩, Sub.any⟩
    ·
     refine T.seq ?_
     refine T.region ?_
     refine LW.q rfl (Qt.eqlS rfl rfl) ?_
     refine LW.q rfl (Qt.assign rfl) ?_
     refine LW.done ?_
     refine T.condP rfl (fun e2 => ?_) (fun e2 => ?_)
     ·
      refine T.skip ?_
      exact ⟨_, ⟨_, decide (op = [60, 62]), by simp [e2, cmpOp], (updS rfl (updS rfl (updS rfl (updS rfl rfl)))), rfl⟩, Sub.any⟩
     ·
      refine T.seq ?_
      refine T.region ?_
      refine LW.q rfl (Qt.eqlS rfl rfl) ?_
      refine LW.q rfl (Qt.assign rfl) ?_
      refine LW.done ?_
      refine T.condP rfl (fun e3 => ?_) (fun e3 => ?_)
      ·
       refine T.skip ?_
       exact ⟨_, ⟨_, decide (op = [60, 61]), by simp [e3, cmpOp], (updS rfl (updS rfl (updS rfl (updS rfl rfl)))), rfl⟩, Sub.any⟩
      ·
       refine T.seq ?_
       refine T.region ?_
       refine LW.q rfl (Qt.eqlS rfl rfl) ?_
       refine LW.q rfl (Qt.assign rfl) ?_
       refine LW.done ?_
       refine T.condP rfl (fun e4 => ?_) (fun e4 => ?_)
       ·
        refine T.skip ?_
        exact ⟨_, ⟨_, decide (op = [62, 61]), by simp [e4, cmpOp], (updS rfl (updS rfl (updS rfl (updS rfl rfl)))), rfl⟩, Sub.any⟩
       ·
        refine T.seq ?_
        refine T.region ?_
        refine LW.q rfl (Qt.eqlS rfl rfl) ?_
        refine LW.q rfl (Qt.assign rfl) ?_
        refine LW.done ?_
        refine T.condP rfl (fun e5 => ?_) (fun e5 => ?_)
        ·
         refine T.skip ?_
         exact ⟨_, ⟨_, decide (op = [60]), by simp [e5, cmpOp], (updS rfl (updS rfl (updS rfl (updS rfl rfl)))), rfl⟩, Sub.any⟩
        ·
         refine T.region ?_
         refine LW.q rfl (Qt.eqlS rfl rfl) ?_
         refine LW.q rfl (Qt.assign rfl) ?_
         refine LW.done ?_
         exact ⟨_, ⟨_, decide (op = [62]), by simp [e1, e2, e3, e4, e5, cmpOp], (updS rfl (updS rfl (updS rfl (updS rfl rfl)))), rfl⟩, Sub.any⟩
   rintro fz lz ⟨f0, b28, h28, rfl, rfl⟩
   try simp only [List.cons_append, List.nil_append]
   refine T.cond rfl (fun h3 => ?_) (fun h3 => ?_)
   ·
    have hkp : kindP op ks = (3, decide ((m : Int) = 2) && (alls 1 ks || alls 2 ks)) := by unfold kindP; rw [if_neg h9n, if_neg h2, if_pos (h28.1 h3), hkl]
    refine T.seq ?_
    refine T.region ?_
    first | refine LW.q rfl (Qt.load (by kernel_rfl) rfl rfl) ?_ | refine LW.q rfl (Qt.load (by kernel_rfl) rfl (map_at _ _ _ (by omega))) ?_ | refine LW.q rfl (Qt.load (by kernel_rfl) rfl (flat_cell0 _ _ _ (by intros; rfl) _ (by omega) (by rfl))) ?_ | refine LW.q rfl (Qt.load (by kernel_rfl) rfl (flat_cell _ _ _ (by intros; rfl) _ _ (by omega) (by rfl))) ?_ | refine LW.q rfl (Qt.load (by kernel_rfl) rfl (bytes_at _ _ (by omega))) ?_
    refine LW.q rfl (Qt.len (e := 58) (sz := 7) (by kernel_rfl) rfl) ?_
    refine LW.q rfl (Qt.eql rfl rfl) ?_
    refine LW.q rfl (Qt.move rfl) ?_
    refine LW.split (t := 38) rfl (fun hl => ?_) (fun hl => ?_)
    ·
     try replace hl := of_decide_eq_true hl
     refine LW.q rfl (Qt.move rfl) ?_
     refine LW.e rfl (Ef.callC [iV 1] [.pointer (some ⟨g3, 0, none⟩)] (Bd.allK B S g3 a m c css ks 1 h hm hn hk) Try.func28 rfl rfl rfl rfl rfl ?_)
     rintro _ _ ⟨rfl, rfl⟩
     try simp only [List.cons_append, List.nil_append]
     refine LW.q rfl (Qt.move rfl) ?_
     refine LW.split (t := 41) rfl (fun ha => ?_) (fun ha => ?_)
     ·
      try replace ha := of_decide_eq_true ha
      refine LW.s rfl ?_
      refine LW.s rfl ?_
      refine LW.q rfl (Qt.pick rfl rfl) ?_
      refine LW.q rfl (Qt.pick rfl rfl) ?_
      refine LW.q rfl (Qt.assign rfl) ?_
      refine LW.q rfl (Qt.assign rfl) ?_
      refine LW.done ?_
      refine T.ret ?_
      exact ⟨.inl rfl, _, _, res [_, _] rfl ⟨rvT rfl, rvT rfl, trivial⟩, ⟨by rw [hkp, decide_eq_true hl, ha]; rfl, rfl⟩, Sub.any⟩
     ·
      try replace ha := of_decide_eq_false ha
      refine LW.q rfl (Qt.move rfl) ?_
      refine LW.e rfl (Ef.callC [iV 2] [.pointer (some ⟨g3, 0, none⟩)] (Bd.allK B S g3 a m c css ks 2 h hm hn hk) Try.func28 rfl rfl rfl rfl rfl ?_)
      rintro _ _ ⟨rfl, rfl⟩
      try simp only [List.cons_append, List.nil_append]
      refine LW.q rfl (Qt.pick rfl rfl) ?_
      refine LW.q rfl (Qt.pick rfl rfl) ?_
      refine LW.q rfl (Qt.assign rfl) ?_
      refine LW.q rfl (Qt.assign rfl) ?_
      refine LW.done ?_
      refine T.ret ?_
      exact ⟨.inl rfl, _, _, res [_, _] rfl ⟨rvT rfl, rvT rfl, trivial⟩, ⟨by rw [hkp, decide_eq_true hl, ha]; rfl, rfl⟩, Sub.any⟩
    ·
     try replace hl := of_decide_eq_false hl
     refine LW.s rfl ?_
     refine LW.s rfl ?_
     refine LW.s rfl ?_
     refine LW.s rfl ?_
     refine LW.s rfl ?_
     refine LW.s rfl ?_
     refine LW.q rfl (Qt.pick rfl rfl) ?_
     refine LW.q rfl (Qt.assign rfl) ?_
     refine LW.q rfl (Qt.assign rfl) ?_
     refine LW.done ?_
     refine T.ret ?_
     exact ⟨.inl rfl, _, _, res [_, _] rfl ⟨rvT rfl, rvT rfl, trivial⟩, ⟨by rw [hkp, decide_eq_false hl]; rfl, rfl⟩, Sub.any⟩
   ·
    have h28n : ¬ cmpOp op := fun e => by rw [h28.2 e] at h3; cases h3
    refine T.seq ?_
    refine T.region ?_
    refine LW.q rfl (Qt.eqlS rfl rfl) ?_
    refine LW.q rfl (Qt.assign rfl) ?_
    refine LW.done ?_
    refine T.condP rfl (fun h4 => ?_) (fun h4 => ?_)
    ·
     have hkp : kindP op ks = (1, (decide ((m : Int) = 1) || decide ((m : Int) = 2)) && alls 1 ks) := by unfold kindP; rw [if_neg h9n, if_neg h2, if_neg h28n, if_pos h4, hkl]
     refine T.seq ?_
     refine T.region ?_
     first | refine LW.q rfl (Qt.load (by kernel_rfl) rfl rfl) ?_ | refine LW.q rfl (Qt.load (by kernel_rfl) rfl (map_at _ _ _ (by omega))) ?_ | refine LW.q rfl (Qt.load (by kernel_rfl) rfl (flat_cell0 _ _ _ (by intros; rfl) _ (by omega) (by rfl))) ?_ | refine LW.q rfl (Qt.load (by kernel_rfl) rfl (flat_cell _ _ _ (by intros; rfl) _ _ (by omega) (by rfl))) ?_ | refine LW.q rfl (Qt.load (by kernel_rfl) rfl (bytes_at _ _ (by omega))) ?_
     refine LW.q rfl (Qt.len (e := 58) (sz := 7) (by kernel_rfl) rfl) ?_
     refine LW.q rfl (Qt.eql rfl rfl) ?_
     refine LW.q rfl (Qt.move rfl) ?_
     refine LW.split (t := 51) rfl (fun hl => ?_) (fun hl => ?_)
     ·
      try replace hl := of_decide_eq_true hl
      refine LW.s rfl ?_
      refine LW.s rfl ?_
      refine LW.s rfl ?_
      refine LW.q rfl (Qt.pick rfl rfl) ?_
      refine LW.q rfl (Qt.move rfl) ?_
      first | refine LW.gT (t := 56) rfl rfl ?_ | refine LW.gT (t := 56) rfl (decide_eq_true (rfl)) ?_ | refine LW.gT (t := 56) rfl (rfl) ?_
      refine LW.q rfl (Qt.move rfl) ?_
      refine LW.e rfl (Ef.callC [iV 1] [.pointer (some ⟨g3, 0, none⟩)] (Bd.allK B S g3 a m c css ks 1 h hm hn hk) Try.func28 rfl rfl rfl rfl rfl ?_)
      rintro _ _ ⟨rfl, rfl⟩
      try simp only [List.cons_append, List.nil_append]
      refine LW.q rfl (Qt.pick rfl rfl) ?_
      refine LW.q rfl (Qt.assign rfl) ?_
      refine LW.q rfl (Qt.assign rfl) ?_
      refine LW.done ?_
      refine T.ret ?_
      exact ⟨.inl rfl, _, _, res [_, _] rfl ⟨rvT rfl, rvT rfl, trivial⟩, ⟨by rw [hkp, decide_eq_true hl]; rfl, rfl⟩, Sub.any⟩
     ·
      try replace hl := of_decide_eq_false hl
      first | refine LW.q rfl (Qt.load (by kernel_rfl) rfl rfl) ?_ | refine LW.q rfl (Qt.load (by kernel_rfl) rfl (map_at _ _ _ (by omega))) ?_ | refine LW.q rfl (Qt.load (by kernel_rfl) rfl (flat_cell0 _ _ _ (by intros; rfl) _ (by omega) (by rfl))) ?_ | refine LW.q rfl (Qt.load (by kernel_rfl) rfl (flat_cell _ _ _ (by intros; rfl) _ _ (by omega) (by rfl))) ?_ | refine LW.q rfl (Qt.load (by kernel_rfl) rfl (bytes_at _ _ (by omega))) ?_
      refine LW.q rfl (Qt.len (e := 58) (sz := 7) (by kernel_rfl) rfl) ?_
      refine LW.q rfl (Qt.eql rfl rfl) ?_
      refine LW.q rfl (Qt.pick rfl rfl) ?_
      refine LW.q rfl (Qt.move rfl) ?_
      refine LW.split (t := 56) rfl (fun hl2 => ?_) (fun hl2 => ?_)
      ·
       try replace hl2 := of_decide_eq_true hl2
       refine LW.q rfl (Qt.move rfl) ?_
       refine LW.e rfl (Ef.callC [iV 1] [.pointer (some ⟨g3, 0, none⟩)] (Bd.allK B S g3 a m c css ks 1 h hm hn hk) Try.func28 rfl rfl rfl rfl rfl ?_)
       rintro _ _ ⟨rfl, rfl⟩
       try simp only [List.cons_append, List.nil_append]
       refine LW.q rfl (Qt.pick rfl rfl) ?_
       refine LW.q rfl (Qt.assign rfl) ?_
       refine LW.q rfl (Qt.assign rfl) ?_
       refine LW.done ?_
       refine T.ret ?_
       exact ⟨.inl rfl, _, _, res [_, _] rfl ⟨rvT rfl, rvT rfl, trivial⟩, ⟨by rw [hkp, decide_eq_false hl, decide_eq_true hl2]; rfl, rfl⟩, Sub.any⟩
      ·
       try replace hl2 := of_decide_eq_false hl2
       refine LW.s rfl ?_
       refine LW.s rfl ?_
       refine LW.q rfl (Qt.pick rfl rfl) ?_
       refine LW.q rfl (Qt.assign rfl) ?_
       refine LW.q rfl (Qt.assign rfl) ?_
       refine LW.done ?_
       refine T.ret ?_
       exact ⟨.inl rfl, _, _, res [_, _] rfl ⟨rvT rfl, rvT rfl, trivial⟩, ⟨by rw [hkp, decide_eq_false hl, decide_eq_false hl2]; rfl, rfl⟩, Sub.any⟩
    ·
     refine T.cut (fun fz lz => ∃ (f0 : Fr) (b60 : Bool), (b60 = true ↔ (op = [43] ∨ op = [42])) ∧ fz = (upd (upd (upd (upd f0 3 (.pointer (some ⟨g3, 0, none⟩))) 6 (kClo g3)) 8 (tV op)) 60 (.bool b60)) ∧ lz = blk g3 [.slice a m c] 56 :: (S ++ F)) ?_ ?_
     ·
      refine T.seq ?_
      refine T.region ?_
      refine LW.q rfl (Qt.eqlS rfl rfl) ?_
      refine LW.q rfl (Qt.assign rfl) ?_
      refine LW.done ?_
      refine T.condP rfl (fun e1 => ?_) (fun e1 => ?_)
      ·
       refine T.skip ?_
       exact ⟨_, ⟨_, decide (op = [43]), by simp [e1], (updS rfl (updS rfl (updS rfl (updS rfl rfl)))), rfl⟩, Sub.any⟩
      ·
       refine T.region ?_
       refine LW.q rfl (Qt.eqlS rfl rfl) ?_
       refine LW.q rfl (Qt.assign rfl) ?_
       refine LW.done ?_
       exact ⟨_, ⟨_, decide (op = [42]), by simp [e1], (updS rfl (updS rfl (updS rfl (updS rfl rfl)))), rfl⟩, Sub.any⟩
     rintro fz lz ⟨f0, b60, h60, rfl, rfl⟩
     try simp only [List.cons_append, List.nil_append]
     refine T.cond rfl (fun h5 => ?_) (fun h5 => ?_)
     ·
      have hkp : kindP op ks = (1, decide ((m : Int) = 2) && alls 1 ks) := by unfold kindP; rw [if_neg h9n, if_neg h2, if_neg h28n, if_neg h4, if_pos (h60.1 h5), hkl]
      refine T.seq ?_
      refine T.region ?_
      first | refine LW.q rfl (Qt.load (by kernel_rfl) rfl rfl) ?_ | refine LW.q rfl (Qt.load (by kernel_rfl) rfl (map_at _ _ _ (by omega))) ?_ | refine LW.q rfl (Qt.load (by kernel_rfl) rfl (flat_cell0 _ _ _ (by intros; rfl) _ (by omega) (by rfl))) ?_ | refine LW.q rfl (Qt.load (by kernel_rfl) rfl (flat_cell _ _ _ (by intros; rfl) _ _ (by omega) (by rfl))) ?_ | refine LW.q rfl (Qt.load (by kernel_rfl) rfl (bytes_at _ _ (by omega))) ?_
      refine LW.q rfl (Qt.len (e := 58) (sz := 7) (by kernel_rfl) rfl) ?_
      refine LW.q rfl (Qt.eql rfl rfl) ?_
      refine LW.q rfl (Qt.move rfl) ?_
      refine LW.split (t := 66) rfl (fun hl => ?_) (fun hl => ?_)
      ·
       try replace hl := of_decide_eq_true hl
       refine LW.q rfl (Qt.move rfl) ?_
       refine LW.e rfl (Ef.callC [iV 1] [.pointer (some ⟨g3, 0, none⟩)] (Bd.allK B S g3 a m c css ks 1 h hm hn hk) Try.func28 rfl rfl rfl rfl rfl ?_)
       rintro _ _ ⟨rfl, rfl⟩
       try simp only [List.cons_append, List.nil_append]
       refine LW.q rfl (Qt.pick rfl rfl) ?_
       refine LW.q rfl (Qt.assign rfl) ?_
       refine LW.q rfl (Qt.assign rfl) ?_
       refine LW.done ?_
       refine T.ret ?_
       exact ⟨.inl rfl, _, _, res [_, _] rfl ⟨rvT rfl, rvT rfl, trivial⟩, ⟨by rw [hkp, decide_eq_true hl]; rfl, rfl⟩, Sub.any⟩
      ·
       try replace hl := of_decide_eq_false hl
       refine LW.s rfl ?_
       refine LW.s rfl ?_
       refine LW.q rfl (Qt.pick rfl rfl) ?_
       refine LW.q rfl (Qt.assign rfl) ?_
       refine LW.q rfl (Qt.assign rfl) ?_
       refine LW.done ?_
       refine T.ret ?_
       exact ⟨.inl rfl, _, _, res [_, _] rfl ⟨rvT rfl, rvT rfl, trivial⟩, ⟨by rw [hkp, decide_eq_false hl]; rfl, rfl⟩, Sub.any⟩
     ·
      have h60n : ¬ (op = [43] ∨ op = [42]) := fun e => by rw [h60.2 e] at h5; cases h5
      have hkp : kindP op ks = (0, false) := by unfold kindP; rw [if_neg h9n, if_neg h2, if_neg h28n, if_neg h4, if_neg h60n]
      refine T.skip ?_
      refine T.seq ?_
      refine T.region ?_
      refine LW.q rfl (Qt.assign rfl) ?_
      refine LW.q rfl (Qt.assign rfl) ?_
      refine LW.done ?_
      refine T.ret ?_
      exact ⟨.inl rfl, _, _, res [_, _] rfl ⟨rvT rfl, rvT rfl, trivial⟩, ⟨by rw [hkp]; rfl, rfl⟩, Sub.any⟩
end Go.Proofs.Ytopbkdpbljebgaa

/- The package bind: Bind. Conditions: that what is handed in can be read; sizes. -/
set_option linter.unusedSimpArgs false
set_option linter.unusedVariables false
namespace Go.Proofs.Ytopbkdpbljebgaa
open Go.RowKit

def kindAt (sc : List Co) (i : Nat) : Int := match sc[i]? with | some c => c.kind | none => 0
mutual
/-- What Bind answers: a term, or an error's number. -/
def bindE (sc : List Co) : Ex → Except Int Tm
  | .mk op n text of args =>
    if op = [110, 117, 109, 98, 101, 114] then .ok (.mk [118, 97, 108, 117, 101] 1 ⟨1, n, []⟩ 0 [])
    else if op = [116, 101, 120, 116] then (if 64 < text.length then .error 2 else .ok (.mk [118, 97, 108, 117, 101] 2 ⟨2, 0, text⟩ 0 []))
    else if op = [110, 97, 109, 101] then (if (findC sc of text).2 ≠ 0 then .error (findC sc of text).2 else .ok (.mk [99, 111, 108, 117, 109, 110] (kindAt sc (findC sc of text).1) vZ (findC sc of text).1 []))
    else match bindL sc args with
      | .error c => .error c
      | .ok ts => if (kindP op (ts.map Tm.kind)).2 = true then .ok (.mk op (kindP op (ts.map Tm.kind)).1 vZ 0 ts) else .error 170
def bindL (sc : List Co) : List Ex → Except Int (List Tm)
  | [] => .ok []
  | e :: es => match bindE sc e with
    | .error c => .error c
    | .ok t => match bindL sc es with
      | .error c => .error c
      | .ok ts => .ok (t :: ts)
end
theorem bindL_ok {sc : List Co} {xs0 : List Ex} {e : Ex} {bs : List Ex} {ts : List Tm} (h : bindL sc xs0 = .ok ts) :
    bindL sc (xs0 ++ e :: bs) = match bindE sc e with
      | .error c => .error c
      | .ok t => match bindL sc bs with
        | .error c => .error c
        | .ok us => .ok (ts ++ t :: us) := by
  induction xs0 generalizing ts with
  | nil =>
    simp only [bindL] at h; injection h with h; subst h
    rw [List.nil_append, bindL]
    rfl
  | cons x xs ih =>
    rw [bindL] at h
    rw [List.cons_append, bindL]
    cases hx : bindE sc x with
    | error c => rw [hx] at h; cases h
    | ok t =>
      rw [hx] at h
      cases hxs : bindL sc xs with
      | error c => rw [hxs] at h; cases h
      | ok us =>
        rw [hxs] at h; injection h with h; subst h
        dsimp only
        rw [ih hxs]
        cases bindE sc e with
        | error c => rfl
        | ok t2 => cases bindL sc bs <;> rfl
theorem take_app {α : Type} {l : List α} {k : Nat} {x : α} (h : l[k]? = some x) : l = l.take k ++ x :: l.drop (k + 1) := by
  obtain ⟨hk, rfl⟩ := List.getElem?_eq_some_iff.1 h
  rw [← List.drop_eq_getElem_cons hk, List.take_append_drop]
theorem bindL_err {sc : List Co} {args : List Ex} {k : Nat} {e : Ex} {ts : List Tm} {c : Int} (he : args[k]? = some e) (h : bindL sc (args.take k) = .ok ts) (hb : bindE sc e = .error c) : bindL sc args = .error c := by
  rw [take_app he, bindL_ok h, hb]
theorem bindL_next {sc : List Co} {args : List Ex} {k : Nat} {e : Ex} {ts : List Tm} {t : Tm} (he : args[k]? = some e) (h : bindL sc (args.take k) = .ok ts) (hb : bindE sc e = .ok t) : bindL sc (args.take (k + 1)) = .ok (ts ++ [t]) := by
  rw [List.take_add_one, he]
  show bindL sc (args.take k ++ e :: []) = _
  rw [bindL_ok h, hb]
  rfl
theorem findC_lt {sc : List Co} {of name : Str} (h : (findC sc of name).2 = 0) : (findC sc of name).1 < sc.length := by
  unfold findC at h ⊢
  split at h
  · cases h
  · split at h
    · cases h
    · rename_i h1 h2
      rw [if_neg h1, if_neg h2]
      split at h
      · cases h
      · rename_i i r e
        exact (hits_lt (e ▸ List.mem_cons_self)).2
section
variable {B : Base} {S : List Assn}
theorem TmV.form {t : Tm} {c : C7} (h : TmV B S t c) : ∃ a m, c = ⟨tV t.op, iV t.kind, iV t.v.kind, iV t.v.int, tV t.v.text, iV t.place, .slice a t.args.length m⟩ := by
  cases h with
  | mk op k v p args av css hf hl hb hc =>
    obtain ⟨a, cap, rfl⟩ := hf.form hl
    exact ⟨a, cap, rfl⟩
theorem ExV.form {t : Ex} {c : C5} (h : ExV B S t c) : ∃ op n text of a m cap, c = ⟨tV op, iV n, tV text, tV of, .slice a m cap⟩ := by
  cases h with
  | mk op n text of args av css hf hl hb ht hc =>
    obtain ⟨a, cap, rfl⟩ := hf.form hl
    exact ⟨op, n, text, of, a, _, cap, rfl⟩
end
abbrev zC : C7 := ⟨.string .empty, iV 0, iV 0, iV 0, .string .empty, iV 0, .slice none 0 0⟩
def BindPost (B : Base) (S : List Assn) (sc : List Co) (e : Ex) (u : Value) (l : List Assn) : Prop := match bindE sc e with
  | .error code => u = .tuple #[tA zC, iV code] ∧ code ≠ 0 ∧ l = S
  | .ok t => ∃ A c, u = .tuple #[tA c, iV 0] ∧ TmV B [A] t c ∧ l = A :: S
theorem BindPost.okE {B : Base} {S l : List Assn} {sc : List Co} {e : Ex} {u : Value} {t : Tm} (h : BindPost B S sc e u l) (hb : bindE sc e = .ok t) : ∃ A c, u = .tuple #[tA c, iV 0] ∧ TmV B [A] t c ∧ l = A :: S := by unfold BindPost at h; rw [hb] at h; exact h
theorem BindPost.errE {B : Base} {S l : List Assn} {sc : List Co} {e : Ex} {u : Value} {code : Int} (h : BindPost B S sc e u l) (hb : bindE sc e = .error code) : u = .tuple #[tA zC, iV code] ∧ code ≠ 0 ∧ l = S := by unfold BindPost at h; rw [hb] at h; exact h
theorem BindPost.ofOk {B : Base} {S l : List Assn} {sc : List Co} {e : Ex} {u : Value} {t : Tm} {A : Assn} {c : C7} (hb : bindE sc e = .ok t) (h1 : u = .tuple #[tA c, iV 0]) (h2 : TmV B [A] t c) (h3 : l = A :: S) : BindPost B S sc e u l := by unfold BindPost; rw [hb]; exact ⟨A, c, h1, h2, h3⟩
theorem BindPost.ofErr {B : Base} {S l : List Assn} {sc : List Co} {e : Ex} {u : Value} {code : Int} (hb : bindE sc e = .error code) (h1 : u = .tuple #[tA zC, iV code]) (h2 : code ≠ 0) (h3 : l = S) : BindPost B S sc e u l := by unfold BindPost; rw [hb]; exact ⟨h1, h2, h3⟩
theorem Bd.elemT : ElemOk Try.prog 56 58 7 88 := .mk' (tA zC) Try.underlying56 (by kernel_rfl) rfl (by omega)
/-- The terms bound so far, and where they lie. -/
def TmsV (B : Base) (A : Assn) (ts : List Tm) (css : List C7) : Prop := css.length = ts.length ∧ ∀ (i : Nat) (t : Tm) (c : C7), ts[i]? = some t → css[i]? = some c → TmV B [A] t c
theorem TmsV.ks {B : Base} {A : Assn} {ts : List Tm} {css : List C7} (h : TmsV B A ts css) : KsV css (ts.map Tm.kind) := ⟨by rw [List.length_map, h.1], fun i c hc => by
  have hi := (List.getElem?_eq_some_iff.1 hc).1
  have ht : ts[i]? = some (ts[i]'(by rw [← h.1]; exact hi)) := List.getElem?_eq_getElem _
  obtain ⟨a, m, hf⟩ := (h.2 i _ c ht hc).form
  exact ⟨_, by rw [List.getElem?_map, ht]; rfl, by rw [hf]⟩⟩
theorem TmsV.snoc {B : Base} {A A1 : Assn} {ts : List Tm} {css : List C7} {t : Tm} {c : C7} (h : TmsV B A ts css) (h1 : TmV B [A1] t c) : TmsV B (sepL [A, A1]) (ts ++ [t]) (css ++ [c]) := ⟨by rw [List.length_append, List.length_append, h.1]; rfl, fun i t' c' ht hc => by
  by_cases hi : i < ts.length
  · rw [List.getElem?_append_left hi] at ht
    rw [List.getElem?_append_left (by rw [h.1]; exact hi)] at hc
    exact (h.2 i t' c' ht hc).sub fun k H => by
      obtain ⟨h1, h2, d, a, b, e, H2⟩ := Has.open_sepL H
      exact ⟨h1, h2, d, a, b, e, trivial⟩
  · rw [List.getElem?_append_right (by omega)] at ht
    rw [List.getElem?_append_right (by rw [h.1]; omega), h.1] at hc
    have hj := (List.getElem?_eq_some_iff.1 ht).1
    have : i - ts.length = 0 := by simp at hj; omega
    rw [this] at ht hc
    simp at ht hc; subst ht; subst hc
    exact h1.sub fun k H => (Has.open_sepL H).tail⟩
instance (priority := high) (l : List Assn) : TakeA (pu True) l l := ⟨fun _ H => Has.close_pu trivial H⟩
instance (priority := high) (A l r : List Assn) [k : TakeL A l r] : TakeA (sepL A) l r := ⟨fun h H => Has.close_sepL (k.take h H)⟩
theorem TmV.leaf (B : Base) (S : List Assn) (op : Str) (k : Int) (v : Va) (p : Int) : TmV B S (.mk op k v p []) ⟨tV op, iV k, iV v.kind, iV v.int, tV v.text, iV p, .slice none 0 0⟩ :=
  .mk op k v p [] _ [] (.empty _ _) rfl (by simp) (by intro i t c h; simp at h)
set_option maxHeartbeats 4000000 in
theorem Bd.bind (B : Base) (S : List Assn) (e : Ex) (ce : C5) (a : Option Addr) (m c : Nat) (sc : List Co) (h : ExV B S e ce) (hs : FlV B S coC (.slice a m c) sc) (hm : sc.length = m) (hmn : m < 2 ^ 32) : Fn Try.prog B 15 #[eA ce, .slice a m c] S (BindPost B S sc e) := by
 induction h with
 | mk op n text of args av css hf hl hb ht hc ih =>
 obtain ⟨pa, ca, rfl⟩ := hf.form hl
 refine Fn.enter2 98 Try.func15 rfl rfl (Nat.le_of_ble_eq_true rfl) (fun F => ?_)
 try simp only [List.cons_append, List.nil_append]
 refine T.seq ?_
 refine T.region ?_
 refine LW.e rfl (Ef.box [_, _, _, _, _] rfl rfl ?_)
 intro g2
 refine LW.e rfl (Ef.alloc [.string .empty, .int .i64 0, .int .i64 0, .int .i64 0, .string .empty, .int .i64 0, .slice none 0 0] (by unfold zeroB; kernel_rfl) ?_)
 intro g4
 refine LW.q rfl (Qt.assign rfl) ?_
 refine LW.done ?_
 refine T.seq ?_
 refine T.seq ?_
 refine T.region ?_
 refine LW.q rfl (Qt.fieldAddr0 (by kernel_rfl) rfl) ?_
 first | refine LW.q rfl (Qt.load (by kernel_rfl) rfl rfl) ?_ | refine LW.q rfl (Qt.load (by kernel_rfl) rfl (map_at _ _ _ (by omega))) ?_ | refine LW.q rfl (Qt.load (by kernel_rfl) rfl (flat_cell0 _ _ _ (by intros; rfl) _ (by omega) (by rfl))) ?_ | refine LW.q rfl (Qt.load (by kernel_rfl) rfl (flat_cell _ _ _ (by intros; rfl) _ _ (by omega) (by rfl))) ?_ | refine LW.q rfl (Qt.load (by kernel_rfl) rfl (bytes_at _ _ (by omega))) ?_
 refine LW.done ?_
 refine T.block ?_
 refine T.seq ?_
 refine T.region ?_
 refine LW.q rfl (Qt.eqlS rfl rfl) ?_
 refine LW.q rfl (Qt.assign rfl) ?_
 refine LW.done ?_
 refine T.condP rfl (fun h1 => ?_) (fun h1 => ?_)
 ·
  refine T.seq ?_
  refine T.region ?_
  refine LW.q rfl (Qt.fieldAddr (off := 1) (by kernel_rfl) rfl) ?_
  first | refine LW.q rfl (Qt.load (by kernel_rfl) rfl rfl) ?_ | refine LW.q rfl (Qt.load (by kernel_rfl) rfl (map_at _ _ _ (by omega))) ?_ | refine LW.q rfl (Qt.load (by kernel_rfl) rfl (flat_cell0 _ _ _ (by intros; rfl) _ (by omega) (by rfl))) ?_ | refine LW.q rfl (Qt.load (by kernel_rfl) rfl (flat_cell _ _ _ (by intros; rfl) _ _ (by omega) (by rfl))) ?_ | refine LW.q rfl (Qt.load (by kernel_rfl) rfl (bytes_at _ _ (by omega))) ?_
  refine LW.q rfl (Qt.build [(0, 1), (1, 1), (2, 1)] [.int .i64 0, .int .i64 0, .string .empty] [_, _, _] [(0, _), (1, _)] (by kernel_rfl) (by unfold zeroB; kernel_rfl) rfl rfl) ?_
  refine LW.q rfl (Qt.build [(0, 1), (1, 1), (2, 3), (5, 1), (6, 1)] [.string .empty, .int .i64 0, .int .i64 0, .int .i64 0, .string .empty, .int .i64 0, .slice none 0 0] [_, _, _, _, _, _, _] [(0, _), (1, _), (2, _)] (by kernel_rfl) (by unfold zeroB; kernel_rfl) rfl rfl) ?_
  refine LW.e0 rfl (Ef.store [_, _, _, _, _, _, _] (by kernel_rfl) rfl rfl rfl rfl (by simp) ?_)
  try simp only [splice, List.length_cons, List.length_nil, List.drop_succ_cons, List.cons_append, List.take_succ_cons, List.take_zero, List.drop_zero, List.nil_append, List.append_nil]
  refine LW.q rfl (Qt.assign rfl) ?_
  refine LW.done ?_
  refine T.ret ?_
  exact ⟨.inl rfl, _, _, res [_, _] rfl ⟨rvA [_, _, _, _, _, _, _] (by kernel_rfl) rfl ⟨rfl, rfl, rfl, rfl, rfl, rfl, rfl, trivial⟩, rvT rfl, trivial⟩, BindPost.ofOk (A := pu True) (c := ⟨tV _, iV _, iV _, iV _, tV _, iV _, _⟩) (by unfold bindE; rw [if_pos h1]) rfl (TmV.leaf _ _ _ _ _ _) rfl, Sub.any⟩
 ·
  refine T.seq ?_
  refine T.region ?_
  refine LW.q rfl (Qt.eqlS rfl rfl) ?_
  refine LW.q rfl (Qt.assign rfl) ?_
  refine LW.done ?_
  refine T.condP rfl (fun h2 => ?_) (fun h2 => ?_)
  ·
   refine T.seq ?_
   refine T.seq ?_
   refine T.region ?_
   refine LW.q rfl (Qt.fieldAddr (off := 2) (by kernel_rfl) rfl) ?_
   first | refine LW.q rfl (Qt.load (by kernel_rfl) rfl rfl) ?_ | refine LW.q rfl (Qt.load (by kernel_rfl) rfl (map_at _ _ _ (by omega))) ?_ | refine LW.q rfl (Qt.load (by kernel_rfl) rfl (flat_cell0 _ _ _ (by intros; rfl) _ (by omega) (by rfl))) ?_ | refine LW.q rfl (Qt.load (by kernel_rfl) rfl (flat_cell _ _ _ (by intros; rfl) _ _ (by omega) (by rfl))) ?_ | refine LW.q rfl (Qt.load (by kernel_rfl) rfl (bytes_at _ _ (by omega))) ?_
   first | refine LW.q rfl (Qt.lenSt (by kernel_rfl) rfl) ?_ | refine LW.q rfl (Qt.lenS (by kernel_rfl) rfl) ?_
   refine LW.q rfl (Qt.gtr rfl rfl) ?_
   refine LW.done ?_
   refine T.condP rfl (fun h3 => ?_) (fun h3 => ?_)
   ·
    refine T.seq ?_
    refine T.region ?_
    refine LW.q rfl (Qt.build [(0, 1), (1, 1), (2, 3), (5, 1), (6, 1)] [.string .empty, .int .i64 0, .int .i64 0, .int .i64 0, .string .empty, .int .i64 0, .slice none 0 0] [_, _, _, _, _, _, _] [] (by kernel_rfl) (by unfold zeroB; kernel_rfl) rfl rfl) ?_
    refine LW.e0 rfl (Ef.store [_, _, _, _, _, _, _] (by kernel_rfl) rfl rfl rfl rfl (by simp) ?_)
    try simp only [splice, List.length_cons, List.length_nil, List.drop_succ_cons, List.cons_append, List.take_succ_cons, List.take_zero, List.drop_zero, List.nil_append, List.append_nil]
    refine LW.q rfl (Qt.assign rfl) ?_
    refine LW.done ?_
    refine T.ret ?_
    exact ⟨.inl rfl, _, _, res [_, _] rfl ⟨rvA [_, _, _, _, _, _, _] (by kernel_rfl) rfl ⟨rfl, rfl, rfl, rfl, rfl, rfl, rfl, trivial⟩, rvT rfl, trivial⟩, BindPost.ofErr (by unfold bindE; rw [if_neg h1, if_pos h2, if_pos (by omega)]) rfl (by omega) rfl, Sub.any⟩
   ·
    refine T.skip ?_
    refine T.seq ?_
    refine T.region ?_
    refine LW.q rfl (Qt.fieldAddr (off := 2) (by kernel_rfl) rfl) ?_
    first | refine LW.q rfl (Qt.load (by kernel_rfl) rfl rfl) ?_ | refine LW.q rfl (Qt.load (by kernel_rfl) rfl (map_at _ _ _ (by omega))) ?_ | refine LW.q rfl (Qt.load (by kernel_rfl) rfl (flat_cell0 _ _ _ (by intros; rfl) _ (by omega) (by rfl))) ?_ | refine LW.q rfl (Qt.load (by kernel_rfl) rfl (flat_cell _ _ _ (by intros; rfl) _ _ (by omega) (by rfl))) ?_ | refine LW.q rfl (Qt.load (by kernel_rfl) rfl (bytes_at _ _ (by omega))) ?_
    refine LW.q rfl (Qt.build [(0, 1), (1, 1), (2, 1)] [.int .i64 0, .int .i64 0, .string .empty] [_, _, _] [(0, _), (2, _)] (by kernel_rfl) (by unfold zeroB; kernel_rfl) rfl rfl) ?_
    refine LW.q rfl (Qt.build [(0, 1), (1, 1), (2, 3), (5, 1), (6, 1)] [.string .empty, .int .i64 0, .int .i64 0, .int .i64 0, .string .empty, .int .i64 0, .slice none 0 0] [_, _, _, _, _, _, _] [(0, _), (1, _), (2, _)] (by kernel_rfl) (by unfold zeroB; kernel_rfl) rfl rfl) ?_
    refine LW.e0 rfl (Ef.store [_, _, _, _, _, _, _] (by kernel_rfl) rfl rfl rfl rfl (by simp) ?_)
    try simp only [splice, List.length_cons, List.length_nil, List.drop_succ_cons, List.cons_append, List.take_succ_cons, List.take_zero, List.drop_zero, List.nil_append, List.append_nil]
    refine LW.q rfl (Qt.assign rfl) ?_
    refine LW.done ?_
    refine T.ret ?_
    exact ⟨.inl rfl, _, _, res [_, _] rfl ⟨rvA [_, _, _, _, _, _, _] (by kernel_rfl) rfl ⟨rfl, rfl, rfl, rfl, rfl, rfl, rfl, trivial⟩, rvT rfl, trivial⟩, BindPost.ofOk (A := pu True) (c := ⟨tV _, iV _, iV _, iV _, tV _, iV _, _⟩) (by unfold bindE; rw [if_neg h1, if_pos h2, if_neg (by omega)]) rfl (TmV.leaf _ _ _ _ _ _) rfl, Sub.any⟩
  ·
   refine T.seq ?_
   refine T.region ?_
   refine LW.q rfl (Qt.eqlS rfl rfl) ?_
   refine LW.q rfl (Qt.assign rfl) ?_
   refine LW.done ?_
   refine T.condP rfl (fun h3 => ?_) (fun h3 => ?_)
   ·
    refine T.seq ?_
    refine T.region ?_
    refine LW.q rfl (Qt.move rfl) ?_
    refine LW.q rfl (Qt.fieldAddr (off := 3) (by kernel_rfl) rfl) ?_
    first | refine LW.q rfl (Qt.load (by kernel_rfl) rfl rfl) ?_ | refine LW.q rfl (Qt.load (by kernel_rfl) rfl (map_at _ _ _ (by omega))) ?_ | refine LW.q rfl (Qt.load (by kernel_rfl) rfl (flat_cell0 _ _ _ (by intros; rfl) _ (by omega) (by rfl))) ?_ | refine LW.q rfl (Qt.load (by kernel_rfl) rfl (flat_cell _ _ _ (by intros; rfl) _ _ (by omega) (by rfl))) ?_ | refine LW.q rfl (Qt.load (by kernel_rfl) rfl (bytes_at _ _ (by omega))) ?_
    refine LW.q rfl (Qt.fieldAddr (off := 2) (by kernel_rfl) rfl) ?_
    first | refine LW.q rfl (Qt.load (by kernel_rfl) rfl rfl) ?_ | refine LW.q rfl (Qt.load (by kernel_rfl) rfl (map_at _ _ _ (by omega))) ?_ | refine LW.q rfl (Qt.load (by kernel_rfl) rfl (flat_cell0 _ _ _ (by intros; rfl) _ (by omega) (by rfl))) ?_ | refine LW.q rfl (Qt.load (by kernel_rfl) rfl (flat_cell _ _ _ (by intros; rfl) _ _ (by omega) (by rfl))) ?_ | refine LW.q rfl (Qt.load (by kernel_rfl) rfl (bytes_at _ _ (by omega))) ?_
    refine LW.e rfl (Ef.call (Bd.find B S a m c sc of text hs hm hmn) Try.func9 rfl rfl rfl ?_)
    rintro _ _ ⟨rfl, rfl⟩
    try simp only [List.cons_append, List.nil_append]
    refine LW.q rfl (Qt.move rfl) ?_
    refine LW.q rfl (Qt.extr rfl rfl) ?_
    refine LW.q rfl (Qt.extr rfl rfl) ?_
    refine LW.q rfl (Qt.assign rfl) ?_
    refine LW.q rfl (Qt.assign rfl) ?_
    refine LW.done ?_
    refine T.seq ?_
    refine T.seq ?_
    refine T.region ?_
    refine LW.q rfl (Qt.move rfl) ?_
    refine LW.q rfl (Qt.neq rfl rfl) ?_
    refine LW.done ?_
    refine T.condP rfl (fun h4 => ?_) (fun h4 => ?_)
    ·
     refine T.seq ?_
     refine T.region ?_
     refine LW.q rfl (Qt.build [(0, 1), (1, 1), (2, 3), (5, 1), (6, 1)] [.string .empty, .int .i64 0, .int .i64 0, .int .i64 0, .string .empty, .int .i64 0, .slice none 0 0] [_, _, _, _, _, _, _] [] (by kernel_rfl) (by unfold zeroB; kernel_rfl) rfl rfl) ?_
     refine LW.q rfl (Qt.move rfl) ?_
     refine LW.e0 rfl (Ef.store [_, _, _, _, _, _, _] (by kernel_rfl) rfl rfl rfl rfl (by simp) ?_)
     try simp only [splice, List.length_cons, List.length_nil, List.drop_succ_cons, List.cons_append, List.take_succ_cons, List.take_zero, List.drop_zero, List.nil_append, List.append_nil]
     refine LW.q rfl (Qt.assign rfl) ?_
     refine LW.done ?_
     refine T.ret ?_
     exact ⟨.inl rfl, _, _, res [_, _] rfl ⟨rvA [_, _, _, _, _, _, _] (by kernel_rfl) rfl ⟨rfl, rfl, rfl, rfl, rfl, rfl, rfl, trivial⟩, rvT rfl, trivial⟩, BindPost.ofErr (by unfold bindE; rw [if_neg h1, if_neg h2, if_pos h3, if_pos h4]) rfl h4 rfl, Sub.any⟩
    ·
     have h5 := findC_lt (Classical.not_not.1 h4)
     have h6 : bindE sc (.mk op n text of args) = .ok (.mk [99, 111, 108, 117, 109, 110] (kindAt sc (findC sc of text).1) vZ (findC sc of text).1 []) := by unfold bindE; rw [if_neg h1, if_neg h2, if_pos h3, if_neg h4]
     generalize (findC sc of text).1 = fi at h5 h6 ⊢
     obtain ⟨b, o, rfl, hr⟩ := hs.at (sz := 3) coC_len (by omega)
     obtain ⟨q, hq⟩ : ∃ q, sc[fi]? = some q := ⟨_, List.getElem?_eq_getElem (by omega)⟩
     have hq1 := hr fi q hq
     have hk : kindAt sc fi = q.kind := by unfold kindAt; rw [hq]
     rw [hk] at h6
     refine T.skip ?_
     refine T.seq ?_
     refine T.region ?_
     refine LW.q rfl (Qt.move rfl) ?_
     refine LW.q rfl (Qt.move rfl) ?_
     refine LW.q rfl (Qt.index _ (e := 31) (sz := 3) (by kernel_rfl) rfl rfl rfl (by omega)) ?_
     refine LW.q rfl (Qt.fieldAddr (off := 1) (by kernel_rfl) rfl) ?_
     refine LW.q rfl (Qt.fieldAddr (off := 1) (by kernel_rfl) rfl) ?_
     refine LW.q rfl (Qt.loadW (by kernel_rfl) rfl (fun w ho => rangeAt_one (j := 2) (hq1 w (ho.map Sub.any)) rfl)) ?_
     refine LW.q rfl (Qt.move rfl) ?_
     refine LW.q rfl (Qt.build [(0, 1), (1, 1), (2, 3), (5, 1), (6, 1)] [.string .empty, .int .i64 0, .int .i64 0, .int .i64 0, .string .empty, .int .i64 0, .slice none 0 0] [_, _, _, _, _, _, _] [(0, _), (1, _), (3, _)] (by kernel_rfl) (by unfold zeroB; kernel_rfl) rfl rfl) ?_
     refine LW.e0 rfl (Ef.store [_, _, _, _, _, _, _] (by kernel_rfl) rfl rfl rfl rfl (by simp) ?_)
     try simp only [splice, List.length_cons, List.length_nil, List.drop_succ_cons, List.cons_append, List.take_succ_cons, List.take_zero, List.drop_zero, List.nil_append, List.append_nil]
     refine LW.q rfl (Qt.assign rfl) ?_
     refine LW.done ?_
     refine T.ret ?_
     exact ⟨.inl rfl, _, _, res [_, _] rfl ⟨rvA [_, _, _, _, _, _, _] (by kernel_rfl) rfl ⟨rfl, rfl, rfl, rfl, rfl, rfl, rfl, trivial⟩, rvT rfl, trivial⟩, BindPost.ofOk (A := pu True) (c := ⟨tV _, iV _, iV _, iV _, tV _, iV _, _⟩) h6 rfl (TmV.leaf _ _ _ _ _ _) rfl, Sub.any⟩
   ·
    refine T.conv (l' := row (.slice none 0 0) 58 7 0 (List.flatMap c7 []) :: _) (fun w ho => ho.row_nil 58 7) ?_
    refine T.skip ?_
    refine T.seq ?_
    refine T.region ?_
    refine LW.q rfl (Qt.fieldAddr0 (by kernel_rfl) rfl) ?_
    first | refine LW.q rfl (Qt.load (by kernel_rfl) rfl rfl) ?_ | refine LW.q rfl (Qt.load (by kernel_rfl) rfl (map_at _ _ _ (by omega))) ?_ | refine LW.q rfl (Qt.load (by kernel_rfl) rfl (flat_cell0 _ _ _ (by intros; rfl) _ (by omega) (by rfl))) ?_ | refine LW.q rfl (Qt.load (by kernel_rfl) rfl (flat_cell _ _ _ (by intros; rfl) _ _ (by omega) (by rfl))) ?_ | refine LW.q rfl (Qt.load (by kernel_rfl) rfl (bytes_at _ _ (by omega))) ?_
    refine LW.q rfl (Qt.build [(0, 1), (1, 1), (2, 3), (5, 1), (6, 1)] [.string .empty, .int .i64 0, .int .i64 0, .int .i64 0, .string .empty, .int .i64 0, .slice none 0 0] [_, _, _, _, _, _, _] [(0, _)] (by kernel_rfl) (by unfold zeroB; kernel_rfl) rfl rfl) ?_
    refine LW.e rfl (Ef.alloc [.string .empty, .int .i64 0, .int .i64 0, .int .i64 0, .string .empty, .int .i64 0, .slice none 0 0] (by unfold zeroB; kernel_rfl) ?_)
    intro g8
    refine LW.e0 rfl (Ef.store [_, _, _, _, _, _, _] (by kernel_rfl) rfl rfl rfl rfl (by simp) ?_)
    try simp only [splice, List.length_cons, List.length_nil, List.drop_succ_cons, List.cons_append, List.take_succ_cons, List.take_zero, List.drop_zero, List.nil_append, List.append_nil]
    refine LW.done ?_
    refine T.seq ?_
    refine T.seq ?_
    refine T.region ?_
    refine LW.q rfl (Qt.fieldAddr (off := 4) (by kernel_rfl) rfl) ?_
    first | refine LW.q rfl (Qt.load (by kernel_rfl) rfl rfl) ?_ | refine LW.q rfl (Qt.load (by kernel_rfl) rfl (map_at _ _ _ (by omega))) ?_ | refine LW.q rfl (Qt.load (by kernel_rfl) rfl (flat_cell0 _ _ _ (by intros; rfl) _ (by omega) (by rfl))) ?_ | refine LW.q rfl (Qt.load (by kernel_rfl) rfl (flat_cell _ _ _ (by intros; rfl) _ _ (by omega) (by rfl))) ?_ | refine LW.q rfl (Qt.load (by kernel_rfl) rfl (bytes_at _ _ (by omega))) ?_
    refine LW.q rfl (Qt.len (e := 42) (sz := 5) (by kernel_rfl) rfl) ?_
    refine LW.q rfl (Qt.move rfl) ?_
    refine LW.done ?_
    refine T.block ?_
    refine T.loop (fun mz fz lz => ∃ (f0 : Fr) (k : Nat) (ts : List Tm) (cs : List C7) (A : Assn) (p : Option Addr) (l0 c0 : Nat), (k ≤ args.length ∧ bindL sc (args.take k) = .ok ts ∧ TmsV B A ts cs ∧ cs.length = l0 ∧ ts.length = k ∧ (0 < l0 → ∃ g, p = some ⟨g, 0, none⟩)) ∧ mz = args.length - k ∧ fz = (upd (upd (upd (upd (upd (upd (upd f0 1 (.slice a m c)) 2 (.pointer (some ⟨g2, 0, none⟩))) 4 (.pointer (some ⟨g4, 0, none⟩))) 8 (.pointer (some ⟨g8, 0, none⟩))) 61 (.slice pa args.length ca)) 62 (.int .i64 args.length)) 63 (.int .i64 k)) ∧ lz = row (.slice p l0 c0) 58 7 l0 (cs.flatMap c7) :: blk g8 [tV op, iV 0, iV 0, iV 0, .string .empty, iV 0, .slice p l0 c0] 58 :: blk g4 (c7 zC) 58 :: blk g2 [tV op, iV n, tV text, tV of, .slice pa args.length ca] 42 :: A :: (S ++ F)) ?_ ?_
    · refine ⟨_, _, ⟨_, 0, [], [], pu True, none, 0, 0, ⟨Nat.zero_le _, rfl, ⟨rfl, by intro i t c h; simp at h⟩, rfl, rfl, fun h => absurd h (by omega)⟩, rfl, (updS rfl (updS rfl (updS rfl (updS rfl (updS rfl (updS rfl (updS rfl rfl))))))), rfl⟩, Sub.any⟩
    ·
     rintro mz fz lz ⟨f0, k, ts, cs, A, p, l0, c0, ⟨hk, hbl, htv, hcl, htl, hp⟩, hmz, rfl, rfl⟩
     subst mz
     try simp only [List.cons_append, List.nil_append]
     refine T.seq ?_
     refine T.region ?_
     refine LW.q rfl (Qt.lss rfl rfl) ?_
     refine LW.done ?_
     refine T.seq ?_
     refine T.condP rfl (fun hlt => ?_) (fun hlt => ?_)
     ·
      obtain ⟨b, o, rfl, hr⟩ := hf.at (sz := 5) (fun _ => rfl) (by omega)
      obtain ⟨x, hx⟩ : ∃ x, args[k]? = some x := ⟨_, List.getElem?_eq_getElem (by omega)⟩
      obtain ⟨q, hq⟩ : ∃ q, css[k]? = some q := ⟨_, List.getElem?_eq_getElem (by omega)⟩
      have hq1 := hr k q hq
      have ihx := ih k x q hx hq
      obtain ⟨o1, n1, t1, f1, pa1, m1, c1, rfl⟩ := (hc k x q hx hq).form
      refine T.skip ?_
      refine T.seq ?_
      refine T.block ?_
      refine T.seq ?_
      refine T.region ?_
      refine LW.q rfl (Qt.index _ (e := 42) (sz := 5) (by kernel_rfl) rfl rfl rfl (by omega)) ?_
      refine LW.q rfl (Qt.loadAggW (c5 ⟨tV o1, iV n1, tV t1, tV f1, .slice pa1 m1 c1⟩) (by kernel_rfl) rfl (fun w ho => hq1 w (ho.map Sub.any))) ?_
      refine LW.e rfl (Ef.alloc [.string .empty, .int .i64 0, .string .empty, .string .empty, .slice none 0 0] (by unfold zeroB; kernel_rfl) ?_)
      intro g10
      refine LW.e0 rfl (Ef.store [_, _, _, _, _] (by kernel_rfl) rfl rfl rfl rfl (by simp) ?_)
      try simp only [splice, List.length_cons, List.length_nil, List.drop_succ_cons, List.cons_append, List.take_succ_cons, List.take_zero, List.drop_zero, List.nil_append, List.append_nil]
      refine LW.done ?_
      refine T.seq ?_
      refine T.region ?_
      first | refine LW.q rfl (Qt.loadAgg [_, _, _, _, _] (by kernel_rfl) rfl ⟨rfl, rfl, rfl, rfl, rfl, trivial⟩) ?_ | refine LW.q rfl (Qt.loadAgg [_, _, _, _, _] (by kernel_rfl) rfl (by exact rdl_flat _ _ _ (by intros; rfl) _ (by omega))) ?_
      refine LW.q rfl (Qt.move rfl) ?_
      refine LW.e rfl (Ef.call (ihx) Try.func15 rfl rfl rfl ?_)
      rintro u l5 hpost
      try simp only [List.cons_append, List.nil_append]
      by_cases hbe : ∃ t, bindE sc x = .ok t
      ·
       obtain ⟨t, hbe⟩ := hbe
       obtain ⟨A1, q7, rfl, ht1, rfl⟩ := hpost.okE hbe
       obtain ⟨pa7, ca7, rfl⟩ := ht1.form
       try simp only [List.cons_append, List.nil_append]
       refine LW.q rfl (Qt.move rfl) ?_
       refine LW.q rfl (Qt.extr rfl rfl) ?_
       refine LW.q rfl (Qt.extr rfl rfl) ?_
       refine LW.e rfl (Ef.alloc [.string .empty, .int .i64 0, .int .i64 0, .int .i64 0, .string .empty, .int .i64 0, .slice none 0 0] (by unfold zeroB; kernel_rfl) ?_)
       intro g11
       refine LW.e0 rfl (Ef.store [_, _, _, _, _, _, _] (by kernel_rfl) rfl rfl rfl rfl (by simp) ?_)
       try simp only [splice, List.length_cons, List.length_nil, List.drop_succ_cons, List.cons_append, List.take_succ_cons, List.take_zero, List.drop_zero, List.nil_append, List.append_nil]
       refine LW.q rfl (Qt.assign rfl) ?_
       refine LW.done ?_
       refine T.seq ?_
       refine T.seq ?_
       refine T.region ?_
       refine LW.q rfl (Qt.move rfl) ?_
       refine LW.q rfl (Qt.neq rfl rfl) ?_
       refine LW.done ?_
       first | refine T.condF rfl ?_ | refine T.condPF rfl (rfl) ?_ | refine T.condBF rfl (rfl) ?_
       have hsn := htv.snoc ht1
       have hle := htv.1
       refine T.skip ?_
       refine T.region ?_
       refine LW.q rfl (Qt.fieldAddr (off := 6) (by kernel_rfl) rfl) ?_
       first | refine LW.q rfl (Qt.load (by kernel_rfl) rfl rfl) ?_ | refine LW.q rfl (Qt.load (by kernel_rfl) rfl (map_at _ _ _ (by omega))) ?_ | refine LW.q rfl (Qt.load (by kernel_rfl) rfl (flat_cell0 _ _ _ (by intros; rfl) _ (by omega) (by rfl))) ?_ | refine LW.q rfl (Qt.load (by kernel_rfl) rfl (flat_cell _ _ _ (by intros; rfl) _ _ (by omega) (by rfl))) ?_ | refine LW.q rfl (Qt.load (by kernel_rfl) rfl (bytes_at _ _ (by omega))) ?_
       first | refine LW.q rfl (Qt.loadAgg [_, _, _, _, _, _, _] (by kernel_rfl) rfl ⟨rfl, rfl, rfl, rfl, rfl, rfl, rfl, trivial⟩) ?_ | refine LW.q rfl (Qt.loadAgg [_, _, _, _, _, _, _] (by kernel_rfl) rfl (by exact rdl_flat _ _ _ (by intros; rfl) _ (by omega))) ?_
       refine LW.e rfl (Ef.one [_, _, _, _, _, _, _] (e := 58) (sz := 7) (by kernel_rfl) ⟨.agg #[.string .empty, .int .i64 0, .int .i64 0, .int .i64 0, .string .empty, .int .i64 0, .slice none 0 0], by kernel_rfl, rfl⟩ rfl rfl rfl (by omega) (by omega) ?_)
       intro g80
       refine LW.e rfl (Ef.append Bd.elemT rfl rfl (SrcOf.blk (by kernel_rfl) rfl (by simp [Value.oneCell'])) (by unfold maxLen; omega) (by omega) ?_)
       rintro p4 c4 hp4
       try simp only [List.cons_append, List.nil_append]
       rw [show cs.flatMap c7 ++ [tV t.op, iV t.kind, iV t.v.kind, iV t.v.int, tV t.v.text, iV t.place, .slice pa7 t.args.length ca7] = (cs ++ [(⟨tV t.op, iV t.kind, iV t.v.kind, iV t.v.int, tV t.v.text, iV t.place, .slice pa7 t.args.length ca7⟩ : C7)]).flatMap c7 by simp]
       refine LW.q rfl (Qt.fieldAddr (off := 6) (by kernel_rfl) rfl) ?_
       refine LW.e0 rfl (Ef.store1 (by kernel_rfl) rfl rfl rfl (by first | (simp; done) | (simp; omega)) ?_)
       try simp only [List.set_cons_zero, List.set_cons_succ]
       refine LW.done ?_
       refine T.region ?_
       refine LW.q rfl (Qt.add rfl rfl (wr64 (by omega) (by omega))) ?_
       refine LW.q rfl (Qt.move rfl) ?_
       refine LW.done ?_
       refine ⟨_, ?_, _, ⟨_, k + 1, ts ++ [t], cs ++ [⟨tV t.op, iV t.kind, iV t.v.kind, iV t.v.int, tV t.v.text, iV t.place, .slice pa7 t.args.length ca7⟩], sepL [A, A1], p4, l0 + 1, c4, ⟨by omega, bindL_next hx hbl hbe, hsn, by simp [hcl], by simp [htl], hp4⟩, rfl, (updS rfl (updS rfl (updS rfl (updS rfl (updS rfl (updS rfl (updS rfl rfl))))))), rfl⟩, Sub.any⟩
       first | omega | (simp; omega)
      ·
       obtain ⟨code, hbe⟩ : ∃ code, bindE sc x = .error code := by
        cases e : bindE sc x with
        | error c => exact ⟨c, rfl⟩
        | ok t => exact absurd ⟨t, e⟩ hbe
       obtain ⟨rfl, hne, rfl⟩ := hpost.errE hbe
       try simp only [List.cons_append, List.nil_append]
       refine LW.q rfl (Qt.move rfl) ?_
       refine LW.q rfl (Qt.extr rfl rfl) ?_
       refine LW.q rfl (Qt.extr rfl rfl) ?_
       refine LW.e rfl (Ef.alloc [.string .empty, .int .i64 0, .int .i64 0, .int .i64 0, .string .empty, .int .i64 0, .slice none 0 0] (by unfold zeroB; kernel_rfl) ?_)
       intro g11
       refine LW.e0 rfl (Ef.store [_, _, _, _, _, _, _] (by kernel_rfl) rfl rfl rfl rfl (by simp) ?_)
       try simp only [splice, List.length_cons, List.length_nil, List.drop_succ_cons, List.cons_append, List.take_succ_cons, List.take_zero, List.drop_zero, List.nil_append, List.append_nil]
       refine LW.q rfl (Qt.assign rfl) ?_
       refine LW.done ?_
       refine T.seq ?_
       refine T.seq ?_
       refine T.region ?_
       refine LW.q rfl (Qt.move rfl) ?_
       refine LW.q rfl (Qt.neq rfl rfl) ?_
       refine LW.done ?_
       first | refine T.condT rfl ?_ | refine T.condPT rfl (hne) ?_ | refine T.condBT rfl (hne) ?_
       refine T.seq ?_
       refine T.region ?_
       refine LW.q rfl (Qt.build [(0, 1), (1, 1), (2, 3), (5, 1), (6, 1)] [.string .empty, .int .i64 0, .int .i64 0, .int .i64 0, .string .empty, .int .i64 0, .slice none 0 0] [_, _, _, _, _, _, _] [] (by kernel_rfl) (by unfold zeroB; kernel_rfl) rfl rfl) ?_
       refine LW.q rfl (Qt.move rfl) ?_
       refine LW.e0 rfl (Ef.store [_, _, _, _, _, _, _] (by kernel_rfl) rfl rfl rfl rfl (by simp) ?_)
       try simp only [splice, List.length_cons, List.length_nil, List.drop_succ_cons, List.cons_append, List.take_succ_cons, List.take_zero, List.drop_zero, List.nil_append, List.append_nil]
       refine LW.q rfl (Qt.assign rfl) ?_
       refine LW.done ?_
       refine T.ret ?_
       exact ⟨.inl rfl, _, _, res [_, _] rfl ⟨rvA [_, _, _, _, _, _, _] (by kernel_rfl) rfl ⟨rfl, rfl, rfl, rfl, rfl, rfl, rfl, trivial⟩, rvT rfl, trivial⟩, BindPost.ofErr (by unfold bindE; rw [if_neg h1, if_neg h2, if_neg h3, bindL_err hx hbl hbe]) rfl hne rfl, Sub.any⟩
     ·
      obtain rfl : args.length = k := by omega
      rw [List.take_length] at hbl
      refine T.exit ?_
      refine T.seq ?_
      refine T.region ?_
      refine LW.q rfl (Qt.fieldAddr0 (by kernel_rfl) rfl) ?_
      first | refine LW.q rfl (Qt.load (by kernel_rfl) rfl rfl) ?_ | refine LW.q rfl (Qt.load (by kernel_rfl) rfl (map_at _ _ _ (by omega))) ?_ | refine LW.q rfl (Qt.load (by kernel_rfl) rfl (flat_cell0 _ _ _ (by intros; rfl) _ (by omega) (by rfl))) ?_ | refine LW.q rfl (Qt.load (by kernel_rfl) rfl (flat_cell _ _ _ (by intros; rfl) _ _ (by omega) (by rfl))) ?_ | refine LW.q rfl (Qt.load (by kernel_rfl) rfl (bytes_at _ _ (by omega))) ?_
      refine LW.q rfl (Qt.fieldAddr (off := 6) (by kernel_rfl) rfl) ?_
      first | refine LW.q rfl (Qt.load (by kernel_rfl) rfl rfl) ?_ | refine LW.q rfl (Qt.load (by kernel_rfl) rfl (map_at _ _ _ (by omega))) ?_ | refine LW.q rfl (Qt.load (by kernel_rfl) rfl (flat_cell0 _ _ _ (by intros; rfl) _ (by omega) (by rfl))) ?_ | refine LW.q rfl (Qt.load (by kernel_rfl) rfl (flat_cell _ _ _ (by intros; rfl) _ _ (by omega) (by rfl))) ?_ | refine LW.q rfl (Qt.load (by kernel_rfl) rfl (bytes_at _ _ (by omega))) ?_
      refine LW.e rfl (Ef.call (Bd.kind B [row (.slice p l0 c0) 58 7 l0 (cs.flatMap c7)] op p l0 c0 cs (ts.map Tm.kind) (FlV.row (sz := 7) (fun _ => rfl) (by omega) hcl hp) hcl (by have := htv.1; omega) htv.ks) Try.func24 rfl rfl rfl ?_)
      rintro _ _ ⟨rfl, rfl⟩
      try simp only [List.cons_append, List.nil_append]
      refine LW.q rfl (Qt.move rfl) ?_
      refine LW.q rfl (Qt.extr rfl rfl) ?_
      refine LW.q rfl (Qt.extr rfl rfl) ?_
      refine LW.q rfl (Qt.assign rfl) ?_
      refine LW.q rfl (Qt.assign rfl) ?_
      refine LW.done ?_
      refine T.seq ?_
      refine T.seq ?_
      refine T.region ?_
      refine LW.q rfl (Qt.move rfl) ?_
      first | refine LW.q rfl (Qt.notP rfl) ?_ | refine LW.q rfl (Qt.notB rfl) ?_
      refine LW.done ?_
      refine T.cond rfl (fun h4 => ?_) (fun h4 => ?_)
      ·
       have h6 : (kindP op (ts.map Tm.kind)).2 = false := by simpa using h4
       refine T.seq ?_
       refine T.region ?_
       refine LW.q rfl (Qt.build [(0, 1), (1, 1), (2, 3), (5, 1), (6, 1)] [.string .empty, .int .i64 0, .int .i64 0, .int .i64 0, .string .empty, .int .i64 0, .slice none 0 0] [_, _, _, _, _, _, _] [] (by kernel_rfl) (by unfold zeroB; kernel_rfl) rfl rfl) ?_
       refine LW.e0 rfl (Ef.store [_, _, _, _, _, _, _] (by kernel_rfl) rfl rfl rfl rfl (by simp) ?_)
       try simp only [splice, List.length_cons, List.length_nil, List.drop_succ_cons, List.cons_append, List.take_succ_cons, List.take_zero, List.drop_zero, List.nil_append, List.append_nil]
       refine LW.q rfl (Qt.assign rfl) ?_
       refine LW.done ?_
       refine T.ret ?_
       exact ⟨.inl rfl, _, _, res [_, _] rfl ⟨rvA [_, _, _, _, _, _, _] (by kernel_rfl) rfl ⟨rfl, rfl, rfl, rfl, rfl, rfl, rfl, trivial⟩, rvT rfl, trivial⟩, BindPost.ofErr (by unfold bindE; rw [if_neg h1, if_neg h2, if_neg h3, hbl]; dsimp only; rw [if_neg (by rw [h6]; decide)]) rfl (by omega) rfl, Sub.any⟩
      ·
       have h6 : (kindP op (ts.map Tm.kind)).2 = true := by simpa using h4
       refine T.skip ?_
       refine T.seq ?_
       refine T.region ?_
       refine LW.q rfl (Qt.move rfl) ?_
       refine LW.q rfl (Qt.fieldAddr (off := 1) (by kernel_rfl) rfl) ?_
       refine LW.e0 rfl (Ef.store1 (by kernel_rfl) rfl rfl rfl (by first | (simp; done) | (simp; omega)) ?_)
       try simp only [List.set_cons_zero, List.set_cons_succ]
       refine LW.done ?_
       refine T.seq ?_
       refine T.region ?_
       first | refine LW.q rfl (Qt.loadAgg [_, _, _, _, _, _, _] (by kernel_rfl) rfl ⟨rfl, rfl, rfl, rfl, rfl, rfl, rfl, trivial⟩) ?_ | refine LW.q rfl (Qt.loadAgg [_, _, _, _, _, _, _] (by kernel_rfl) rfl (by exact rdl_flat _ _ _ (by intros; rfl) _ (by omega))) ?_
       refine LW.e0 rfl (Ef.store [_, _, _, _, _, _, _] (by kernel_rfl) rfl rfl rfl rfl (by simp) ?_)
       try simp only [splice, List.length_cons, List.length_nil, List.drop_succ_cons, List.cons_append, List.take_succ_cons, List.take_zero, List.drop_zero, List.nil_append, List.append_nil]
       refine LW.q rfl (Qt.assign rfl) ?_
       refine LW.done ?_
       refine T.ret ?_
       exact ⟨.inl rfl, _, _, res [_, _] rfl ⟨rvA [_, _, _, _, _, _, _] (by kernel_rfl) rfl ⟨rfl, rfl, rfl, rfl, rfl, rfl, rfl, trivial⟩, rvT rfl, trivial⟩, BindPost.ofOk (A := sepL [row (.slice p l0 c0) 58 7 l0 (cs.flatMap c7), A]) (c := ⟨tV _, iV _, iV _, iV _, tV _, iV _, _⟩) (by unfold bindE; rw [if_neg h1, if_neg h2, if_neg h3, hbl]; dsimp only; rw [if_pos h6]) rfl (.mk op _ vZ 0 ts _ cs ((FlV.row (l := [A]) (sz := 7) (fun _ => rfl) (by omega) hcl hp).mono fun w ho => ho.map fun _ H => Has.open_sepL H) htv.1 (by omega) (fun i t c h1 h2 => (htv.2 i t c h1 h2).sub fun _ H => (Has.open_sepL H).tail)) rfl, Sub.any⟩
end Go.Proofs.Ytopbkdpbljebgaa
