/- The frame of a law's proof: what the walk owes, and how the row follows; arguments opened as lists. Conditions: none. -/
import Derived.Test.YtegohgaccmkigaaDoorApp
import Derived.Deep.Slices
set_option linter.unusedSimpArgs false
set_option linter.unusedVariables false
namespace Go.Proofs.YtegohgaccmkigaaDoor
open Go.ChangeShapes Go.WideShapes Go.ChangeAt Go.RowKit

theorem Tryd.own : ownKnob Tryd.prog.godebug = none := by kernel_rfl
theorem Tryd.laidOut : laidOutB Tryd.prog = true := by kernel_rfl

section
variable {H : Type} {enc : TypeId × Value → H} {P : Program}

theorem trodAll_stays (hl : laidOutB P = true) {W W' : World} (hb : Below W.heap.size W W') : ∀ (ts : List TypeId) (vs : List Value) (ds : List (DataW H)) (ps : List MemPlace), (∀ t ∈ ts, P.readableRec t = true ∧ t < P.types.size) →
    (∀ x ∈ ps, x.block < W.heap.size) → DataW.TrodAll enc P W 0 (fun _ => true) true ts vs ds ps → DataW.TrodAll enc P W' 0 (fun b => decide (b < W.heap.size)) true ts vs ds ps
  | [], [], [], ps, _, _, h => h
  | t :: ts, v :: vs, d :: ds, ps, hr, hlt, h => by
    obtain ⟨p, q, h1, h2, rfl⟩ := h
    refine ⟨p, q, Below.trod hl (hr t (by simp)).1 (hr t (by simp)).2 h1 hb (fun x hx => hlt x (by simp [hx])), trodAll_stays hl hb ts vs ds q (fun t ht => hr t (by simp [ht])) (fun x hx => hlt x (by simp [hx])) h2, rfl⟩
  | [], [], _ :: _, _, _, _, h => h
  | [], _ :: _, _, _, _, _, h => h
  | _ :: _, [], _, _, _, _, h => h
  | _ :: _, _ :: _, [], _, _, _, h => h

/-- What a law's row asks behind the call, out of what the walk gives. -/
theorem post_law {f : Func} {s : ChangeSpec} {W W' : World} {args : Array Value} {ds gs : List (DataW H)} {before : List MemPlace} (hl : laidOutB P = true)
    (hW : DataW.Whole enc P f.params.toList s.vars false W args.toList ds gs before) (hvars : s.vars = []) (hres : s.fn H (ds ++ gs) = { results := [.lit (.bool true)], args := ds })
    (tb : TypeId) (htb : P.underlying tb = some .bool) (hrt : f.resultTypes = #[tb]) (hr : ∀ t ∈ f.params.toList, P.readableRec t = true ∧ t < P.types.size) (hb : Below W.heap.size W W') :
    s.post enc P f false true false false W args (.bool true) W' := by
  have hW' := hW
  obtain ⟨p, q, hA, hV, rfl, hfz, hnd⟩ := hW
  rw [hvars] at hV
  obtain ⟨rfl, rfl⟩ := trodVars_none hV
  have hlt : ∀ x ∈ p, x.block < W.heap.size := fun x hx => by simpa using hW'.lt x (by simp [hx])
  refine ⟨ds, [], p ++ [], [], p, [], hW', ?_, ?_, ?_, hb.frame _, fun h => by cases h⟩
  · rw [hres, hrt]
    exact trodAll_cons_mk (shut_bool htb _) trodAll_mk0
  · rw [hres]
    exact trodAll_stays hl hb _ _ _ _ hr hlt hA
  · rw [hres, hvars]
    rfl
end

/-! ### Arguments as lists -/
section
variable {H : Type} {enc : TypeId × Value → H} {P : Program} {W : World}

abbrev Tr (enc : TypeId × Value → H) (P : Program) (W : World) (fuel : Nat) (t : TypeId) (cs : List Value) : Option (DataW H × List MemPlace) := DataW.trod enc P W 0 (fun _ => true) true fuel t cs

/-- A slice in memory whose elements, of so many cells, stand to the list's in the relation R. -/
def SliceAt (W : World) (sz : Nat) {α : Type} (R : List Value → α → Prop) (v : Value) (l : List α) : Prop :=
  (v = .slice none 0 0 ∧ l = []) ∨ ∃ a cap, v = .slice (some a) l.length cap ∧ l.length ≤ cap ∧ cap ≤ maxLen ∧
    ∀ i (hi : i < l.length), ∃ cells b o, a = ⟨b, o, none⟩ ∧ b < W.heap.size ∧ cells.length = sz ∧ W.rangeAt b (o + i * sz) cells ∧ R cells l[i]

theorem choose_list {α : Type} {n : Nat} {Q : Nat → α → Prop} (h : ∀ i, i < n → ∃ a, Q i a) : ∃ l : List α, l.length = n ∧ ∀ i (hi : i < l.length), Q i l[i] := by
  induction n with
  | zero => exact ⟨[], rfl, fun i hi => by simp at hi⟩
  | succ n ih =>
    obtain ⟨l, hl, h2⟩ := ih (fun i hi => h i (by omega))
    obtain ⟨a, ha⟩ := h n (by omega)
    refine ⟨l ++ [a], by simp [hl], fun i hi => ?_⟩
    by_cases hin : i < l.length
    · rw [List.getElem_append_left hin]; exact h2 i hin
    · have : i = n := by simp at hi; omega
      subst this
      simp only [← hl, List.getElem_concat_length]; rw [hl]; exact ha

theorem map_sum_le {α β : Type} (f : α → Nat) (g : β → Nat) : ∀ (l : List α) (D : List β), l.length = D.length → (∀ i (h1 : i < l.length) (h2 : i < D.length), f l[i] ≤ g D[i]) → (l.map f).sum ≤ (D.map g).sum
  | [], [], _, _ => by simp
  | x :: l, y :: D, hl, h => by
    have h0 := h 0 (by simp) (by simp)
    have := map_sum_le f g l D (by simpa using hl) (fun i h1 h2 => by have h3 := h (i + 1) (by simpa using h1) (by simpa using h2); simp only [List.getElem_cons_succ] at h3; exact h3)
    simp only [List.map_cons, List.sum_cons]
    simp only [List.getElem_cons_zero] at h0
    omega
  | [], _ :: _, hl, _ => by simp at hl
  | _ :: _, [], hl, _ => by simp at hl

theorem bulkAll_sum (l : List (DataW H)) : Rows.uptoBulkAll l = (l.map Rows.uptoBulk).sum := by
  induction l with
  | nil => rfl
  | cons d l ih => simp [Rows.uptoBulkAll, ih]

/-- A slice argument: each element read by what reads its type. -/
theorem open_slice_R {t e : TypeId} {sz fuel : Nat} {cs : List Value} {x : DataW H × List MemPlace} {α : Type} {R : List Value → α → Prop} {B : α → Nat} (ht : P.underlying t = some (.slice e)) (hc : P.cellsOf e = sz) (hsz : 0 < sz)
    (hR : ∀ n cs y, Tr enc P W n e cs = some y → ∃ a, R cs a ∧ B a ≤ Rows.uptoBulk y.1) (h : Tr enc P W fuel t cs = some x) :
    ∃ v l, cs = [v] ∧ SliceAt W sz R v l ∧ (l.map B).sum + 1 ≤ Rows.uptoBulk x.1 ∧ l.length + 1 ≤ Rows.uptoBulk x.1 := by
  subst hc
  rcases Deep.open_slice ht h with ⟨rfl, rfl⟩ | ⟨a, len, cap, m, n, D, Pl, rfl, hb, hl, hm, hmm, rfl, hx⟩
  · exact ⟨_, [], rfl, .inl ⟨rfl, rfl⟩, by simp [Rows.uptoBulk], by simp [Rows.uptoBulk]⟩
  · simp only [if_true] at hmm
    subst hmm
    obtain ⟨l, hll, hli⟩ := choose_list (n := len) (Q := fun i (y : α) => ∃ cells, W.cells? 0 (a.add (i * P.cellsOf e)) (P.cellsOf e) = some cells ∧ R cells y ∧ B y ≤ Rows.uptoBulk (D i)) (fun i hi => by
      obtain ⟨cs', h1, h2⟩ := hx i (by omega)
      obtain ⟨y, hy, hB⟩ := hR n cs' _ h2
      exact ⟨y, cs', h1, hy, hB⟩)
    refine ⟨_, l, rfl, .inr ⟨a, m, by rw [hll], by omega, hm, fun i hi => ?_⟩, ?_, ?_⟩
    · obtain ⟨cells, h1, h2, _⟩ := hli i hi
      obtain ⟨_, h4, h5⟩ := World.cells?_some h1
      have hsp : a.spot = none := by
        have h0 := hx 0 (by omega)
        obtain ⟨cs', g1, _⟩ := h0
        obtain ⟨_, g4, g5⟩ := World.cells?_some g1
        have := g5 0 hsz
        simp only [Nat.zero_mul] at this
        have hadd : (a.add 0).add 0 = a := by simp [Addr.add]
        rw [hadd, List.getElem?_eq_getElem (by omega)] at this
        unfold World.cell? at this
        cases hh : W.heap[a.block]? with
        | none => simp [hh] at this
        | some o =>
          cases o <;> simp [hh] at this
          have hq := this.1
          cases hs : a.spot with
          | none => rfl
          | some s => simp [hs] at hq
      obtain ⟨b, o, sp⟩ := a
      simp only at hsp
      subst hsp
      have hcell : W.rangeAt b (o + i * P.cellsOf e) cells := fun j v hj => by
        have hjl : j < P.cellsOf e := by have := (List.getElem?_eq_some_iff.1 hj).1; omega
        have := h5 j hjl
        rw [Addr.add_mid, Addr.add_mid] at this
        rw [this]; exact hj
      have hlt : b < W.heap.size := World.block_lt_of_cell? W _ (hcell 0 _ (List.getElem?_eq_getElem (by omega)))
      exact ⟨cells, b, o, rfl, hlt, h4, hcell, h2⟩
    · have := map_sum_le B Rows.uptoBulk l ((List.range len).map D) (by simp [hll]) (fun i h1 h2 => by
        obtain ⟨_, _, _, h3⟩ := hli i h1
        simpa using h3)
      simp only [Rows.uptoBulk, bulkAll_sum]
      omega
    · simp only [Rows.uptoBulk]
      have h1 : l.length ≤ Rows.uptoBulkAll ((List.range len).map D) := by
        rw [bulkAll_sum, hll]
        have : ∀ L : List Nat, L.length ≤ ((L.map D).map Rows.uptoBulk).sum := by
          intro L
          induction L with
          | nil => simp
          | cons a L ih =>
            simp only [List.map_cons, List.sum_cons, List.length_cons]
            have : 1 ≤ Rows.uptoBulk (D a) := by
              cases D a with
              | lit l => cases l <;> simp [Rows.uptoBulk]
              | _ => simp [Rows.uptoBulk]
            omega
        simpa using this (List.range len)
      omega

/-- A struct's field, by its type's number and its place. -/
theorem field_of {fs : Array Field} {n : Nat} {cs : List Value} {xs : List (DataW H × List MemPlace)} (hf : ∀ (i : Nat) (f : Field), fs[i]? = some f → Tr enc P W n f.type ((cs.drop f.offset).take (P.cellsOf f.type)) = xs[i]?)
    (i t off c : Nat) (h : (fs[i]?).map (fun f => (f.type, f.offset)) = some (t, off)) (hc : P.cellsOf t = c) : Tr enc P W n t ((cs.drop off).take c) = xs[i]? := by
  cases hq : fs[i]? with
  | none => simp [hq] at h
  | some f =>
    simp only [hq, Option.map_some, Option.some.injEq, Prod.mk.injEq] at h
    have := hf i f hq
    rw [h.1, h.2, hc] at this
    exact this

/-- A byte. -/
theorem read_u8 {e : TypeId} (he : P.underlying e = some (.int .u8)) (n : Nat) (cs : List Value) (y : DataW H × List MemPlace) (h : Tr enc P W n e cs = some y) : ∃ a : UInt8, cs = [.int .u8 a.toNat] ∧ 1 ≤ Rows.uptoBulk y.1 := by
  obtain ⟨k, rfl, rfl, hw⟩ := DataW.trod_int he h
  have hw' : 0 ≤ k ∧ k ≤ 255 := by simpa [Lit.wf, IntKind.min, IntKind.max, IntKind.signed, IntKind.bits] using hw
  refine ⟨UInt8.ofNat k.toNat, ?_, by simp [Rows.uptoBulk]⟩
  congr 2
  rw [UInt8.toNat_ofNat', Nat.mod_eq_of_lt (by omega)]; omega
theorem read_bool {e : TypeId} (he : P.underlying e = some .bool) (n : Nat) (cs : List Value) (y : DataW H × List MemPlace) (h : Tr enc P W n e cs = some y) : ∃ a : Bool, cs = [.bool a] ∧ 1 ≤ Rows.uptoBulk y.1 := by
  obtain ⟨b, rfl, rfl⟩ := DataW.trod_bool he h
  exact ⟨b, rfl, by simp [Rows.uptoBulk]⟩
theorem read_i64 {e : TypeId} (he : P.underlying e = some (.int .i64)) (n : Nat) (cs : List Value) (y : DataW H × List MemPlace) (h : Tr enc P W n e cs = some y) : ∃ a : Int, (cs = [.int .i64 a] ∧ -9223372036854775808 ≤ a ∧ a ≤ 9223372036854775807) ∧ 1 ≤ Rows.uptoBulk y.1 := by
  obtain ⟨k, rfl, rfl, hw⟩ := DataW.trod_int he h
  exact ⟨k, ⟨rfl, by simpa [Lit.wf, IntKind.min, IntKind.max, IntKind.signed, IntKind.bits] using hw⟩, by simp [Rows.uptoBulk]⟩

/-- A slice of one-cell elements, in Lib's word. -/
theorem SliceAt.reads {α : Type} {R : List Value → α → Prop} {v : Value} {l : List α} (f : α → Value) (hf : ∀ cs a, R cs a → cs = [f a]) (h : SliceAt W 1 R v l) : ∃ fp, Reads W v (l.map f) fp ∧ ∀ x ∈ fp, x < W.heap.size := by
  rcases h with ⟨rfl, rfl⟩ | ⟨a, cap, rfl, hl, hm, hi⟩
  · exact ⟨[], Reads.nil W, by simp⟩
  · by_cases h0 : l = []
    · subst h0; exact ⟨[], ⟨_, cap, rfl, .inl rfl⟩, by simp⟩
    · have hp : 0 < l.length := List.length_pos_iff.2 h0
      obtain ⟨cells, b, o, ha, hb, hlen, hr, hR⟩ := hi 0 hp
      subst ha
      refine ⟨[b], ⟨_, cap, by simp, .inr ⟨b, o, rfl, fun j v hv => ?_, by simp⟩⟩, by simpa using hb⟩
      have hj : j < l.length := by have := (List.getElem?_eq_some_iff.1 hv).1; simpa using this
      obtain ⟨cells', b', o', ha', _, hlen', hr', hR'⟩ := hi j hj
      injection ha' with e1 e2
      subst e1; subst e2
      have hc := hf _ _ hR'
      subst hc
      have := hr' 0 (f l[j]) rfl
      simp only [Nat.mul_one, Nat.add_zero] at this
      rw [this]
      simp only [List.getElem?_map, List.getElem?_eq_getElem hj, Option.map_some] at hv
      exact hv
end

theorem Tryd.upto_bound {H : Type} {l : List (DataW H)} (hk : Rows.uptoSmall H l = true) : Rows.uptoBulkAll l ≤ 1048576 := of_decide_eq_true hk
theorem bulk_two {H : Type} (a b : DataW H) : Rows.uptoBulkAll [a, b] = Rows.uptoBulk a + Rows.uptoBulk b := by simp [Rows.uptoBulkAll]
theorem bulk_three {H : Type} (a b c : DataW H) : Rows.uptoBulkAll [a, b, c] = Rows.uptoBulk a + Rows.uptoBulk b + Rows.uptoBulk c := by simp [Rows.uptoBulkAll]; omega
end Go.Proofs.YtegohgaccmkigaaDoor
