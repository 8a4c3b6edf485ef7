/- The texts Reg Lib App SlA SlB SlC SlD SlE SlF, one behind the other: what the law leans on. Conditions: as each theorem says. -/
import Derived.Test.YtopbkdpbljebgaaRows
import Derived.WalkKit
import Derived.OrdersHeld
import Derived.StillTail
import Derived.WalkSpells
import Derived.WalkLawsBesides
import Derived.ProofKit
import Derived.OpenShut
import Derived.JoinedCond
import Derived.Deep.RegionHeld3
import Derived.Deep.AppendLies
import Derived.Deep.MidRow
import Derived.Lib.Hide
import Derived.Laws.CopyOwn
import Derived.Deep.AppendSrc
import Derived.Laws.IdiomStrings
import Derived.Laws.BytesArg
/- A law for regions that draw their order: the first n operations in whatever order, under a condition on the world that may be strengthened on the way; then the tail, in its forced order, as a plain list. Conditions: the edges, asked by Bools. -/
set_option linter.unusedSimpArgs false
set_option linter.unusedVariables false
namespace Go.Proofs.Ytopbkdpbljebgaa
section
variable {P : Program} {ops : Array Oper} {Q : Exit → Act → World → Prop} {md : Region.Mode}

def doneB (n size : Nat) : Array Bool := ((List.range size).map fun i => decide (i < n)).toArray

/-- Each operation from n on waits for all before n, or for one between n and itself. -/
def directB (md : Region.Mode) (ops : Array Oper) (n : Nat) : Bool :=
  (List.range ops.size).all fun j => decide (j < n) || (List.range n).all (fun i => Region.waitsFor md ops j i) || (List.range j).any (fun t => decide (n ≤ t) && Region.waitsFor md ops j t)

def TailFree (n : Nat) (ops : Array Oper) (listed : Array Bool) : Prop := ∀ t, n ≤ t → t < ops.size → listed.getD t true = false

def wpT (P : Program) (md : Region.Mode) (ops : Array Oper) (Q : Exit → Act → World → Prop) (n : Nat) (T : Act → World → Prop) : Nat → (World → Prop) → Array Bool → Act → World → Prop
  | 0, _, listed, a, w => listed = doneB n ops.size ∧ T a w
  | f + 1, S, listed, a, w => Region.ready md ops listed ≠ [] ∧ ∀ i ∈ Region.ready md ops listed, i < n ∧
      wpOp P ops Q i (fun a' w' => ∃ S' : World → Prop, (∀ u, S' u → S u) ∧ S' w' ∧ wpT P md ops Q n T f S' (listed.setIfInBounds i true) a' w') a w

theorem getD_clash {listed : Array Bool} {i : Nat} (h : listed.getD i true = false) (h' : listed.getD i false = true) : False := by
  rcases Nat.lt_or_ge i listed.size with hl | hl
  · simp [hl] at h h'; rw [h] at h'; cases h'
  · simp [Array.getElem?_eq_none hl] at h

theorem head_only {n i : Nat} {listed : Array Bool} (hd : directB md ops n = true) (ht : TailFree n ops listed) (hin : i < n) (hun : listed.getD i true = false) :
    ∀ j ∈ Region.ready md ops listed, j < n := by
  intro j hj
  obtain ⟨_, oj, hoj, hall⟩ := mem_ready.1 hj
  have hlt := (Array.getElem?_eq_some_iff.1 hoj).1
  have h1 := List.all_eq_true.1 hd j (List.mem_range.2 hlt)
  simp only [Bool.or_eq_true, decide_eq_true_eq] at h1
  rcases h1 with (h1 | h1) | h1
  · exact h1
  · obtain ⟨o', ho', e, he, hb, hon⟩ := Region.waitsFor_spec (List.all_eq_true.1 h1 i (List.mem_range.2 hin))
    have : o' = oj := Option.some.inj (ho'.symm.trans hoj)
    subst this
    have h2 := hall e he hb
    rw [hon] at h2
    exact (getD_clash hun h2).elim
  · obtain ⟨t, htm, h2⟩ := List.any_eq_true.1 h1
    simp only [Bool.and_eq_true, decide_eq_true_eq] at h2
    obtain ⟨o', ho', e, he, hb, hon⟩ := Region.waitsFor_spec h2.2
    have : o' = oj := Option.some.inj (ho'.symm.trans hoj)
    subst this
    have h3 := hall e he hb
    rw [hon] at h3
    exact (getD_clash (ht t h2.1 (by have := List.mem_range.1 htm; omega)) h3).elim

theorem TailFree.set {n i : Nat} {listed : Array Bool} (ht : TailFree n ops listed) (hin : i < n) : TailFree n ops (listed.setIfInBounds i true) := fun t h1 h2 => by
  rw [getD_set_ne true (by omega)]; exact ht t h1 h2

theorem getD_doneB {n size j : Nat} (hj : j < n) : (doneB n size).getD j true = true := by
  rcases Nat.lt_or_ge j size with h | h
  · simp [doneB, h, hj]
  · simp [doneB, Array.getElem?_eq_none, h]

theorem YieldsIf.weaken {S S' : World → Prop} {o : Oper} {v : Value} {a : Act} (h : YieldsIf P ops S o v a) (hs : ∀ u, S' u → S u) : YieldsIf P ops S' o v a :=
  h.imp (fun ⟨hw, hv⟩ => ⟨hw, fun w h => hv w (hs w h)⟩) id

theorem wpT_first {n i : Nat} {T : Act → World → Prop} {oi : Oper} {v : Value} (hi : ops[i]? = some oi) (hsel : ∀ (j : Nat) (o : Oper) cs b, ops[j]? = some o → o.op ≠ .select cs b)
    (hQ : ∀ c a w, Q (.panic c) (a.put oi.dst v) w → Q (.panic c) a w) (hd : directB md ops n = true) (hin : i < n) :
    ∀ (f : Nat) (S : World → Prop) (listed : Array Bool) (a : Act) (w : World), TailFree n ops listed →
      (∀ j oj, ops[j]? = some oj → j ≠ i → listed.getD j true = false → (∀ e ∈ oj.after, Region.binds md e = true → e.on ≠ i) → oi.apart ops oj = true) →
      i ∈ Region.ready md ops listed → YieldsIf P ops S oi v a → S w →
      wpT P md ops Q n T f S (listed.setIfInBounds i true) (a.put oi.dst v) w → wpT P md ops Q n T (f + 1) S listed a w := by
  intro f
  induction f with
  | zero =>
    intro S listed a w ht _ hr hy hS H
    refine ⟨(fun h => (by rw [h] at hr; cases hr)), fun j hj => ?_⟩
    have hjn := head_only hd ht hin (mem_ready.1 hr).1 j hj
    refine ⟨hjn, ?_⟩
    by_cases hji : j = i
    · subst hji; exact hy.wpOp hi hS ⟨S, fun _ h => h, hS, H⟩
    · have h1 := (mem_ready.1 hj).1
      rw [← getD_set_ne true (Ne.symm hji), H.1, getD_doneB hjn] at h1
      cases h1
  | succ f ih =>
    intro S listed a w ht hfree hr hy hS H
    refine ⟨(fun h => (by rw [h] at hr; cases hr)), fun j hj => ?_⟩
    have hjn := head_only hd ht hin (mem_ready.1 hr).1 j hj
    refine ⟨hjn, ?_⟩
    by_cases hji : j = i
    · subst hji; exact hy.wpOp hi hS ⟨S, fun _ h => h, hS, H⟩
    · have h1 := (H.2 j (ready_mono hj hji)).2
      obtain ⟨hjun, oj, hoj, hall⟩ := mem_ready.1 hj
      have hnot : ∀ e ∈ oj.after, Region.binds md e = true → e.on ≠ i := fun e he hb heq => by
        have h2 := hall e he hb
        rw [heq] at h2
        exact getD_clash (mem_ready.1 hr).1 h2
      have h2 := wpOp_putIf (S := S) hoj (hfree j oj hoj hji hjun hnot) (fun cs b => hsel i oi cs b hi) (fun cs b => hsel j oj cs b hoj) hQ hy h1
      refine wpOp_mono (fun a' w' h3 => ?_) h2
      obtain ⟨hy', S', hSS, hS', hT⟩ := h3
      refine ⟨S', hSS, hS', ih S' (listed.setIfInBounds j true) a' w' (ht.set hjn) (fun k ok hk hki hun hno => ?_) (ready_mono hr (Ne.symm hji)) (YieldsIf.weaken hy' hSS) hS' ?_⟩
      · refine hfree k ok hk hki ?_ hno
        by_cases hjk : j = k
        · subst hjk; exact hjun
        · rw [getD_set_ne true hjk] at hun; exact hun
      · rw [Array.setIfInBounds_comm _ _ hji]; exact hT

def tailFreeB (n : Nat) (ops : Array Oper) (listed : Array Bool) : Bool := (List.range ops.size).all fun t => decide (t < n) || !listed.getD t true
theorem tailFreeB_spec {n : Nat} {listed : Array Bool} (h : tailFreeB n ops listed = true) : TailFree n ops listed := fun t h1 h2 => by
  have := List.all_eq_true.1 h t (List.mem_range.2 h2)
  simpa [Nat.not_lt.2 h1] using this

/-- all that a take asks of the region's edges. -/
def takeB (md : Region.Mode) (ops : Array Oper) (n i : Nat) (listed : Array Bool) : Bool :=
  Region.noSelect ops && Region.free md ops listed i && (Region.ready md ops listed).contains i && decide (i < n) && directB md ops n && tailFreeB n ops listed

theorem getElem?_of_drop {i : Nat} {o : Oper} {rest : List Oper} (h : ops.toList.drop i = o :: rest) : ops[i]? = some o := by
  have : ops.toList[i]? = some o := by rw [← List.head?_drop, h]; rfl
  simpa using this

/-- Take number i first: it yields v in every world that meets S. -/
theorem wpT_take {rest : List Oper} {n i f : Nat} {S : World → Prop} {T : Act → World → Prop} {oi : Oper} {v : Value} {listed : Array Bool} {a : Act} {w : World} (hi' : ops.toList.drop i = oi :: rest) (hb : takeB md ops n i listed = true)
    (hQ : ∀ c a w, Q (.panic c) (a.put oi.dst v) w → Q (.panic c) a w) (hS : S w) (hy : YieldsIf P ops S oi v a)
    (h : wpT P md ops Q n T f S (listed.setIfInBounds i true) (a.put oi.dst v) w) : wpT P md ops Q n T (f + 1) S listed a w := by
  have hi := getElem?_of_drop hi'
  simp only [takeB, Bool.and_eq_true, decide_eq_true_eq] at hb
  obtain ⟨⟨⟨⟨⟨h1, h2⟩, h3⟩, h4⟩, h5⟩, h6⟩ := hb
  exact wpT_first hi (Region.noSelect_spec h1) hQ h5 h4 f S listed a w (tailFreeB_spec h6) (Region.free_spec hi h2) (by simpa using h3) hy hS h

theorem wpAny_of_wpT {n : Nat} (hseq : Region.seqB md ops (ops.toList.drop n).length n (doneB n ops.size) = true) :
    ∀ (f : Nat) (S : World → Prop) (listed : Array Bool) (a : Act) (w : World), wpT P md ops Q n (wpList P ops Q (ops.toList.drop n)) f S listed a w → wpAny P md ops Q (f + (ops.toList.drop n).length) listed a w
  | 0, _, listed, a, w, h => by
    obtain ⟨rfl, h⟩ := h
    rw [Nat.zero_add]
    exact wpAny_of_seq _ n _ a w (fun j => by simp) hseq h
  | f + 1, S, listed, a, w, h => by
    rw [show f + 1 + (ops.toList.drop n).length = (f + (ops.toList.drop n).length) + 1 by omega]
    refine ⟨fun h0 => absurd h0 h.1, fun i hi => wpOp_mono (fun a' w' h' => ?_) (h.2 i hi).2⟩
    obtain ⟨S', _, _, h'⟩ := h'
    exact wpAny_of_wpT hseq f S' _ a' w' h'

/-- The beginning. -/
theorem wp_region_T {id : Nat} {l : List Oper} {a : Act} {w : World} (n : Nat) (S : World → Prop) (hm : P.follows .mixedOrders = true) (hn : n ≤ l.length) (hseq : Region.seqB .any l.toArray (l.drop n).length n (doneB n l.length) = true)
    (h : wpT P .any l.toArray Q n (wpList P l.toArray Q (l.drop n)) n S (Array.replicate l.length false) a w.drew) : (Code.region id l.toArray true).wp P Q a w := by
  refine wp_region_any hm ?_
  have := wpAny_of_wpT (P := P) (md := .any) (ops := l.toArray) (Q := Q) (n := n) (by simpa using hseq) n S (Array.replicate l.length false) a w.drew h
  have e : n + (l.toArray.toList.drop n).length = l.toArray.size := by simp; omega
  rw [e] at this
  simpa using this
end
end Go.Proofs.Ytopbkdpbljebgaa

/- Small general lemmas, of no program: worlds that are kept but for some blocks; rows of cells; lists. Conditions: none. -/
set_option linter.unusedSimpArgs false
set_option linter.unusedVariables false
namespace Go.Proofs.Ytopbkdpbljebgaa
open Go.RowKit

/-- w' is w but for the blocks of fp and new ones. -/
structure Kept (fp : List Nat) (w w' : World) : Prop where
  os : w'.os = w.os
  tape : w'.tape = w.tape
  output : w'.output = w.output
  size : w.heap.size ≤ w'.heap.size
  block : ∀ k, k < w.heap.size → k ∉ fp → w'.heap[k]? = w.heap[k]?

theorem Kept.refl (fp : List Nat) (w : World) : Kept fp w w := ⟨rfl, rfl, rfl, Nat.le_refl _, fun _ _ _ => rfl⟩

theorem Kept.trans {fp fp' : List Nat} {a b c : World} (h : Kept fp a b) (k : Kept fp' b c) (hs : ∀ x ∈ fp', x ∈ fp ∨ a.heap.size ≤ x) : Kept fp a c :=
  ⟨k.os.trans h.os, k.tape.trans h.tape, k.output.trans h.output, Nat.le_trans h.size k.size, fun i hi hn =>
    (k.block i (Nat.lt_of_lt_of_le hi h.size) (fun hm => by rcases hs i hm with h1 | h1; exact hn h1; omega)).trans (h.block i hi hn)⟩

theorem Kept.mono {fp fp' : List Nat} {w w' : World} (h : Kept fp w w') (hs : ∀ x ∈ fp, x ∈ fp' ∨ w.heap.size ≤ x) : Kept fp' w w' :=
  ⟨h.os, h.tape, h.output, h.size, fun i hi hn => h.block i hi (fun hm => by rcases hs i hm with h1 | h1; exact hn h1; omega)⟩

theorem Kept.drew {fp : List Nat} {a w : World} (h : Kept fp a w) : Kept fp a w.drew := ⟨h.os, h.tape, h.output, h.size, h.block⟩

theorem Kept.alloc {fp : List Nat} {a w : World} (h : Kept fp a w) (o : Obj) : Kept fp a (w.alloc o) :=
  h.trans (fp' := []) ⟨rfl, rfl, rfl, by simp, fun k hk _ => Below.heap_alloc _ _ _ hk⟩ (by simp)

theorem Kept.grown {fp : List Nat} {a w w' : World} {row : Option Nat} (h : Kept fp a w) (hg : w.grownBy w' row) (hr : ∀ k, row = some k → k ∈ fp ∨ a.heap.size ≤ k) : Kept fp a w' :=
  h.trans (fp' := row.toList) ⟨hg.os, hg.tape, hg.output, hg.size, fun k hk hn => hg.block k hk (fun e => hn (by rw [← e]; simp))⟩ (by
    intro x hx; cases row with
    | none => simp at hx
    | some r => simp at hx; subst hx; exact hr _ rfl)

theorem Kept.toBelow {w w' : World} (h : Kept [] w w') : Below w.heap.size w w' := ⟨h.os, h.tape, h.output, h.size, fun k hk => h.block k hk (by simp)⟩
theorem Kept.cell {fp : List Nat} {w w' : World} (h : Kept fp w w') {p : Addr} (hp : p.block < w.heap.size) (hn : p.block ∉ fp) : w'.cell? p = w.cell? p :=
  World.cell?_of_block (w := w) (h.block p.block hp hn)
theorem lt_of_block {w : World} {b : Nat} {o : Obj} (h : w.heap[b]? = some o) : b < w.heap.size := (Array.getElem?_eq_some_iff.1 h).1

theorem Kept.setRow {fp : List Nat} {a w : World} (h : Kept fp a w) {g : Nat} (hp : g ∈ fp ∨ a.heap.size ≤ g) (cs : Array Value) : Kept fp a (w.setRow g cs) :=
  h.trans (fp' := [g]) ⟨rfl, rfl, rfl, by simp [World.setRow], fun k _ hn => setRow_other w g k _ (by simpa using hn)⟩ (by simpa using hp)

section flat
variable {α β : Type} (f : α → List β) (sz : Nat)
theorem flat_length (l : List α) (h : ∀ x ∈ l, (f x).length = sz) : (l.flatMap f).length = l.length * sz := by
  induction l with
  | nil => simp
  | cons x l ih =>
    simp only [List.flatMap_cons, List.length_append, List.length_cons, h x (by simp), ih (fun y hy => h y (by simp [hy]))]
    rw [Nat.add_mul, Nat.one_mul, Nat.add_comm]
theorem flat_split (l : List α) (h : ∀ x ∈ l, (f x).length = sz) (i : Nat) (hi : i < l.length) :
    l.flatMap f = (l.take i).flatMap f ++ (f l[i] ++ (l.drop (i + 1)).flatMap f) ∧ ((l.take i).flatMap f).length = i * sz := by
  refine ⟨?_, ?_⟩
  · have : l = l.take i ++ l[i] :: l.drop (i + 1) := by simp
    conv => lhs; rw [this, List.flatMap_append, List.flatMap_cons]
  · rw [flat_length f sz _ (fun x hx => h x (List.mem_of_mem_take hx)), List.length_take, Nat.min_eq_left (by omega)]
theorem flat_drop (l : List α) (h : ∀ x ∈ l, (f x).length = sz) (i : Nat) (hi : i < l.length) :
    (l.flatMap f).drop (i * sz) = f l[i] ++ (l.drop (i + 1)).flatMap f := by
  obtain ⟨h1, h2⟩ := flat_split f sz l h i hi
  rw [h1, ← h2]; simp
end flat

/-- What a composite literal's part writes: its cells, from its place on. -/
theorem fold_set (vs : List Value) (off : Nat) : ∀ (k : Nat) (cells : Array Value), off + k + vs.length ≤ cells.size →
    ((vs.zipIdx k).foldl (fun (cs : Array Value) (x : Value × Nat) => cs.setIfInBounds (off + x.2) x.1) cells).toList = splice cells.toList (off + k) vs := by
  induction vs with
  | nil => intro k cells _; simp [splice]
  | cons v vs ih =>
    intro k cells h
    simp only [List.length_cons] at h
    simp only [List.zipIdx_cons, List.foldl_cons]
    rw [ih (k + 1) _ (by simp; omega)]
    unfold splice
    have hl : off + k < cells.toList.length := by simp; omega
    have e : (cells.setIfInBounds (off + k) v).toList = cells.toList.take (off + k) ++ v :: cells.toList.drop (off + k + 1) := by
      rw [Array.toList_setIfInBounds, List.set_eq_take_append_cons_drop, if_pos hl]
    rw [e]
    have hlen : (cells.toList.take (off + k)).length = off + k := by rw [List.length_take]; omega
    have h1 : List.take (off + (k + 1)) (cells.toList.take (off + k) ++ v :: cells.toList.drop (off + k + 1)) = cells.toList.take (off + k) ++ [v] := by
      rw [List.take_append, hlen, List.take_of_length_le (by omega), show off + (k + 1) - (off + k) = 1 by omega]; rfl
    have h2 : List.drop (off + (k + 1) + vs.length) (cells.toList.take (off + k) ++ v :: cells.toList.drop (off + k + 1)) = cells.toList.drop (off + k + (vs.length + 1)) := by
      rw [List.drop_append, hlen, List.drop_of_length_le (by omega), show off + (k + 1) + vs.length - (off + k) = vs.length + 1 by omega, List.drop_succ_cons, List.drop_drop, List.nil_append]
      congr 1; omega
    rw [h1, h2]
    simp only [List.length_cons, List.append_assoc, List.cons_append, List.nil_append]

theorem fill_one (place : Nat → Option (Nat × Nat)) (cells : Array Value) (u : Value) (m : Nat) (hm : u.cells.size = m) (hc : cells.size = m)
    (h0 : place 0 = some (0, m)) : Instr.fill place cells [(0, u)] = some u.cells := by
  have e1 : (u.cells.zipIdx.foldl (fun (cs : Array Value) (c : Value × Nat) => cs.setIfInBounds (0 + c.2) c.1) cells).toList = splice cells.toList 0 u.cells.toList := by
    have := fold_set u.cells.toList 0 0 cells (by simpa using (show u.cells.size ≤ cells.size by omega))
    simp only [Nat.add_zero] at this
    rw [← this, ← Array.foldl_toList, Array.toList_zipIdx]
  unfold Instr.fill
  simp only [h0, hm, ne_eq, not_true, decide_false, Bool.false_or, Nat.zero_add, hc]
  rw [if_neg (by simp)]
  unfold Instr.fill
  congr 1
  apply Array.toList_inj.1
  simp only [Nat.zero_add] at e1
  rw [e1]
  unfold splice
  have hcl : cells.toList.length = m := by simpa using hc
  have hul : u.cells.toList.length = m := by simpa using hm
  rw [List.drop_of_length_le (by omega)]
  simp

/-- A slice literal of one element. -/
theorem run_buildSlice_one {P : Program} (w : World) (t e : TypeId) (i : TypeInfo) (z v : Value) (hu : P.underlying t = some (.slice e)) (hi : P.info? e = some i) (hz : i.zero = some z)
    (hs : i.size = v.cells.size) (hzs : z.cells.size = v.cells.size) (hle : v.cells.size ≤ 16777216) (hpos : 0 < v.cells.size) :
    (Instr.buildSlice t 1 #[(0, v)]).run P w = .ok (.slice (some ⟨w.heap.size, 0, none⟩) 1 1) (w.alloc (.cells v.cells e)) := by
  have hf := fill_one (fun i => some (i * v.cells.size, v.cells.size)) ((Array.range v.cells.size).map fun j => z.cells[j % z.cells.size]!) v _ rfl (by simp) (by simp)
  have h1 : ¬ (2 ^ 24 < v.cells.size) := by omega
  have h2 : v.cells.size ≠ 0 := by omega
  simp only [Instr.buildSlice, run_underlying hu, Sem.run_bind, Sem.run_pure, Result.andThen_ok, sizeOf, typeInfo, zeroValue, hi, hs, Nat.one_mul]
  simp [hi, hs, hz, h1, h2]
  rw [hf]
  simp [newRow]

/-- Bytes as cells. -/
def bytesV (l : List UInt8) : List Value := l.map fun b => .int .u8 b.toNat
@[simp] theorem length_bytesV (l : List UInt8) : (bytesV l).length = l.length := by simp [bytesV]
/-- A slice value of one-cell elements that reads as cs; its cells lie in a block of fp (none is asked where cs is empty). -/
def Reads (w : World) (v : Value) (cs : List Value) (fp : List Nat) : Prop :=
  ∃ a cap, v = .slice a cs.length cap ∧ (cs = [] ∨ ∃ b o, a = some ⟨b, o, none⟩ ∧ w.rangeAt b o cs ∧ b ∈ fp)

theorem rangeAt_kept {w w' : World} {b o : Nat} {cs : List Value} {fp : List Nat} (h : w.rangeAt b o cs) (hk : Kept fp w w') (hb : b ∉ fp) : w'.rangeAt b o cs := fun j v hv =>
  (hk.cell (p := ⟨b, o + j, none⟩) (World.block_lt_of_cell? w _ (h j v hv)) hb).trans (h j v hv)
theorem Reads.kept {w w' : World} {v : Value} {cs : List Value} {fp fp' : List Nat} (h : Reads w v cs fp) (hk : Kept fp' w w') (hd : ∀ x ∈ fp, x ∉ fp') : Reads w' v cs fp := by
  obtain ⟨a, cap, rfl, h | ⟨b, o, rfl, hr, hb⟩⟩ := h
  · exact ⟨a, cap, rfl, .inl h⟩
  · exact ⟨_, cap, rfl, .inr ⟨b, o, rfl, rangeAt_kept hr hk (hd b hb), hb⟩⟩
theorem Reads.nil (w : World) : Reads w (.slice none 0 0) [] [] := ⟨_, _, rfl, .inl rfl⟩

end Go.Proofs.Ytopbkdpbljebgaa

/- The builtin append on a slice that the program owns (nil, or the head of a row of its own), of whatever source: what is behind it, in the words of Lib. Conditions: bounds on the new length. -/
set_option linter.unusedSimpArgs false
set_option linter.unusedVariables false
namespace Go.Proofs.Ytopbkdpbljebgaa
open Go.RowKit

/-- Slice type t has elements of type e, of so many cells and bytes. -/
structure ElemOk (P : Program) (t e : TypeId) (size bytes : Nat) : Prop where
  ht : P.underlying t = some (.slice e)
  ex : ∃ i z, P.info? e = some i ∧ i.zero = some z ∧ i.size = size ∧ i.bytes = bytes ∧ z.cells.size = size
  pos : 0 < size

theorem ElemOk.mk' {P : Program} {t e : TypeId} {size bytes : Nat} (z : Value) (ht : P.underlying t = some (.slice e)) (h : (P.info? e).map (fun i => (i.zero, i.size, i.bytes)) = some (some z, size, bytes)) (hz : z.cells.size = size) (hp : 0 < size) : ElemOk P t e size bytes := by
  obtain ⟨i, h1, h2, h3, h4⟩ := info_parts h
  exact ⟨ht, ⟨i, z, h1, h2, h3, h4, hz⟩, hp⟩

structure AppPost (base : Nat) (e : TypeId) (size : Nat) (v : Value) (n : Nat) (xs : List Value) (m : Nat) (news : List Value) (w : World) (v' : Value) (w' : World) : Prop where
  own : w'.ownsRow base e size v' (n + m) (xs ++ news)
  kept : Kept v.ownBlock.toList w w'
  blk : ∀ g, v'.ownBlock = some g → v.ownBlock = some g ∨ g = w.heap.size
  isNil : v' = .slice none 0 0 ↔ v = .slice none 0 0 ∧ m = 0
  nothing : m = 0 → v' = v ∧ w' = w

theorem AppPost.slice {base : Nat} {e : TypeId} {size : Nat} {v : Value} {n : Nat} {xs : List Value} {m : Nat} {news : List Value} {w : World} {v' : Value} {w' : World}
    (h : AppPost base e size v n xs m news w v' w') (hp : 0 < n + m) : ∃ g cap, v' = .slice (some ⟨g, 0, none⟩) (n + m) cap ∧ (v.ownBlock = some g ∨ g = w.heap.size) ∧ g < w'.heap.size := by
  rcases h.own.2 with ⟨_, h0⟩ | ⟨g, cap, cur, rfl, _, hg, _⟩
  · omega
  · exact ⟨g, cap, rfl, h.blk g rfl, lt_of_block hg⟩

section
variable {P : Program}

theorem setCells_row (P : Program) (w : World) (g : Nat) (e : TypeId) (vs : List Value) (off : Nat) (cur : Array Value) (hg : w.heap[g]? = some (.cells cur e (0, 0))) (hfit : off + vs.length ≤ cur.size) (h1 : ∀ u ∈ vs, u.oneCell' = true) :
    w.setCells g off vs = w.setRow g (splice cur.toList off vs).toArray := by
  have hst := run_storeCells_at P g off e vs 0 cur w hg (by simpa using hfit) h1
  have hsc := run_storeCells_cells (P := P) g off vs 0 w (fun j hj => by rw [cell_of_row w g _ cur e (0, 0) hg]; simp; omega) (fun j hj => frozen_of_row w g _ cur e hg) h1
  rw [hst] at hsc
  simp only [Nat.add_zero, Result.ok.injEq, true_and] at hsc
  rw [← hsc]
  unfold splice
  rw [List.append_assoc]

theorem run_append_k {t tx ty e : TypeId} {size bytes base : Nat} (E : ElemOk P t e size bytes) (w : World) {v : Value} {n : Nat} {xs : List Value} (hown : w.ownsRow base e size v n xs)
    {x : Value} {m : Nat} {news : List Value} (hs : Src P size tx x m news w) (h63 : n + m ≤ maxLen) (hbytes : (n + m) * bytes ≤ 140737488355328) (hbase : base ≤ w.heap.size) :
    ∃ v' w', (Builtin.append_ #[t, tx] ty #[v, x]).run P w = .ok v' w' ∧ AppPost base e size v n xs m news w v' w' := by
  obtain ⟨i, z, hi, hz, hsz, hby, hzs⟩ := E.ex
  subst hsz
  subst hby
  have hsmall : n + m ≤ 9223372036854775807 := by simp only [maxLen] at h63; omega
  have hlen : (xs ++ news).length = (n + m) * i.size := by rw [List.length_append, hown.1, hs.newsLen, Nat.add_mul]
  have grown : ∀ (old : Nat), old < n + m →
      (w.drew.alloc (.cells ((xs ++ news).toArray ++ Builtin.zeroCells z.cells (grownCap w (n + m) old e - (n + m))) e)).ownsRow base e i.size
        (.slice (some ⟨w.heap.size, 0, none⟩) (n + m) (grownCap w (n + m) old e)) (n + m) (xs ++ news) := by
    intro old ho
    have hge := grownCap_ge w (n + m) old e
    have hcm : grownCap w (n + m) old e ≤ maxLen := grownCap_le_maxLen w (n + m) old e h63
    refine ⟨hlen, .inr ⟨w.heap.size, _, _, rfl, hbase, heap_alloc_new w.drew _, hge, hcm, ?_, ?_⟩⟩
    · rw [Array.size_append, List.size_toArray, size_zeroCells, hzs, hlen, ← Nat.add_mul]
      congr 1
      omega
    · rw [Array.toList_append, ← hlen]
      exact List.take_left
  rcases hown.2 with ⟨rfl, rfl⟩ | ⟨g, cap, cur, rfl, hbg, hg, hnc, hcm, hcs, htake⟩
  · have hx : xs = [] := List.eq_nil_of_length_eq_zero (by simpa using hown.1)
    subst hx
    by_cases hm : m = 0
    · subst hm
      have hn : news = [] := List.eq_nil_of_length_eq_zero (by simpa using hs.newsLen)
      subst hn
      refine ⟨.slice none 0 0, w, ?_, ⟨World.ownsRow_nil w base e i.size, Kept.refl _ _, by simp [Value.ownBlock], by simp, fun _ => ⟨rfl, rfl⟩⟩⟩
      rcases hs.kind with ⟨e', hk⟩ | hk <;> simp [Builtin.append_, run_underlying E.ht, run_underlying hk, sizeOf, typeInfo, hi, hs.len, hs.cells, storeCells]
    · have hr := run_append_grow_src (P := P) w t tx ty e i z E.ht hi hz none 0 0 [] (run_firstCells_none w.drew i.size 0 0 0) x m news hs (by omega) (by omega) (growslice_fits (by omega) hbytes)
      have hgr := grown 0 (by omega)
      exact ⟨_, _, hr, ⟨hgr, (Kept.refl _ _).drew.alloc _, fun g hg => .inr (by simpa [Value.ownBlock] using hg.symm), by simp [hm], fun h => absurd h hm⟩⟩
  · by_cases hroom : n + m ≤ cap
    · have hfit : n * i.size + news.length ≤ cur.size := by rw [hs.newsLen, hcs, ← Nat.add_mul]; exact Nat.mul_le_mul_right _ hroom
      have hr := run_append_room_src (P := P) w t tx ty e i E.ht hi g 0 n cap x m news hs hroom
        (fun j hj => by rw [cell_of_row w g _ cur e (0, 0) hg]; simp; omega) (fun j hj => frozen_of_row w g _ cur e hg)
      rw [Nat.zero_add] at hr
      rw [setCells_row P w g e news (n * i.size) cur hg hfit hs.one] at hr
      refine ⟨_, _, hr, ⟨⟨hlen, .inr ⟨g, cap, _, rfl, hbg, setRow_heap w g cur _ e _ hg, hroom, hcm, ?_, ?_⟩⟩, (Kept.refl _ _).setRow (by simp [Value.ownBlock]) _, fun k hk => .inl hk, by simp, ?_⟩⟩
      · rw [List.size_toArray, length_splice _ _ _ (by simpa using hfit)]; simpa using hcs
      · unfold splice
        simp only [htake]
        rw [← List.append_assoc, ← hlen]
        exact List.take_left
      · intro hm
        subst hm
        have hn : news = [] := List.eq_nil_of_length_eq_zero (by simpa using hs.newsLen)
        subst hn
        refine ⟨rfl, ?_⟩
        rw [← setCells_row P w g e [] (n * i.size) cur hg hfit (by simp)]; rfl
    · have holds : ∀ j u, xs[j]? = some u → w.cell? ((⟨g, 0, none⟩ : Addr).add j) = some u := hown.cells (g := g) rfl
      have hf := run_firstCells_some (P := P) w.drew i.size n ⟨g, 0, none⟩ n cap xs hown.1 (by simpa using holds)
      have hr := run_append_grow_src (P := P) w t tx ty e i z E.ht hi hz (some ⟨g, 0, none⟩) n cap xs hf x m news hs (by omega) (by omega) (growslice_fits (by omega) hbytes)
      exact ⟨_, _, hr, ⟨grown cap (by omega), (Kept.refl _ _).drew.alloc _, fun k hk => .inr (by simpa [Value.ownBlock] using hk.symm), by simp, fun hm => by omega⟩⟩

theorem wp_append_k {o : Oper} {a : Act} {K : Act → World → Prop} {Q : Exit → Act → World → Prop} {w : World} {base : Nat} {e : TypeId} {size bytes : Nat} (s y : Operand) (t tx : TypeId)
    (ho : o.op = .call { callee := .builtin .append, args := #[s, y], argTypes := #[t, tx] }) (E : ElemOk P t e size bytes)
    {v : Value} {n : Nat} {xs : List Value} (hv : a.eval s = v) (hown : w.ownsRow base e size v n xs) {x : Value} {m : Nat} {news : List Value} (hx : a.eval y = x) (hs : Src P size tx x m news w)
    (h63 : n + m ≤ maxLen) (hbytes : (n + m) * bytes ≤ 140737488355328) (hbase : base ≤ w.heap.size)
    (h : ∀ v' w', AppPost base e size v n xs m news w v' w' → K (a.put o.dst v') w') : o.wp P a w K Q := by
  obtain ⟨v', w', hr, hp⟩ := run_append_k (ty := o.type) E w hown hs h63 hbytes hbase
  unfold Oper.wp execOp
  simp only [ho, resolve, invoke, builtin, Sem.run_bind, Sem.run_pure, Result.andThen_ok, List.map_toArray, List.map_cons, List.map_nil, hv, hx, hr]
  exact h v' w' hp

/-- A source that reads as so many one-cell elements. -/
theorem Src.ofReads {tx e' : TypeId} (hk : P.underlying tx = some (.slice e')) {w : World} {v : Value} {cs : List Value} {fp : List Nat} (h : Reads w v cs fp) (h1 : ∀ u ∈ cs, u.oneCell' = true) : Src P 1 tx v cs.length cs w := by
  obtain ⟨a, cap, rfl, h | ⟨b, o, rfl, hr, _⟩⟩ := h
  · subst h
    cases a with
    | none => exact Src.ofNil w hk cap
    | some a => exact Src.ofSlice w hk a 0 cap [] (by simp) (by simp) (by simp)
  · exact Src.ofSlice w hk ⟨b, o, none⟩ _ cap cs (by simp) (fun j u hj => by rw [Addr.add_mid]; exact hr j u hj) h1

/-- A source that is an owned row. -/
theorem Src.ofOwns {tx e' : TypeId} {size base : Nat} {e : TypeId} (hk : P.underlying tx = some (.slice e')) {w : World} {v : Value} {n : Nat} {xs : List Value} (h : w.ownsRow base e size v n xs) (h1 : ∀ u ∈ xs, u.oneCell' = true) : Src P size tx v n xs w := by
  rcases h.2 with ⟨rfl, rfl⟩ | ⟨g, cap, cur, rfl, _, _, _⟩
  · have hx : xs = [] := List.eq_nil_of_length_eq_zero (by simpa using h.1)
    subst hx
    exact Src.ofNil w hk 0
  · exact Src.ofSlice w hk ⟨g, 0, none⟩ n cap xs h.1 (h.cells (g := g) rfl) h1

/-- 'T{}' of a slice type: an empty row of its own. -/
theorem wp_empty_k {o : Oper} {a : Act} {K : Act → World → Prop} {Q : Exit → Act → World → Prop} {w : World} {e : TypeId} {size bytes : Nat} (t : TypeId) (ho : o.op = .buildSlice t 0 #[]) (E : ElemOk P t e size bytes)
    (h : ∀ g W, W.ownsRow 0 e size (.slice (some ⟨g, 0, none⟩) 0 0) 0 [] → Kept [] w W → g = w.heap.size → g < W.heap.size → K (a.put o.dst (.slice (some ⟨g, 0, none⟩) 0 0)) W) : o.wp P a w K Q := by
  obtain ⟨i, z, hi, hz, hsz, hby, hzs⟩ := E.ex
  have hr : (Instr.buildSlice t 0 #[]).run P w = .ok (.slice (some ⟨w.heap.size, 0, none⟩) 0 0) (w.alloc (.cells #[] e)) := by
    simp [Instr.buildSlice, run_underlying E.ht, sizeOf, typeInfo, hi, Instr.fill, newRow]
    congr 2
    apply Array.ext <;> simp
  unfold Oper.wp execOp
  simp only [ho, List.map_toArray, List.map_nil, Sem.run_bind, Sem.run_pure, Result.andThen_ok, hr]
  exact h _ _ (World.ownsRow_made w #[] 0 (Nat.zero_le _) (by unfold maxLen; omega) (by simp)) ((Kept.refl _ _).alloc _) rfl (by simp)

/-- The string of bytes; a name of its own, so that no simp looks in. -/
def strOf (l : List UInt8) : ByteArray := ⟨l.toArray⟩
theorem size_strOf (l : List UInt8) : (strOf l).size = l.length := by unfold strOf; simp [ByteArray.size]
end
end Go.Proofs.Ytopbkdpbljebgaa

/- A small separation logic over the model's heap: pieces, assertions, what a world has. Conditions: none. -/
set_option linter.unusedSimpArgs false
set_option linter.unusedVariables false
namespace Go.Proofs.Ytopbkdpbljebgaa
open Go.RowKit

abbrev Piece := Nat → Option Obj
abbrev Assn := Piece → Prop
structure Piece.le (h k : Piece) : Prop where p : ∀ b o, h b = some o → k b = some o
structure Piece.disj (h k : Piece) : Prop where p : ∀ b, h b = none ∨ k b = none
def World.piece (w : World) : Piece := fun b => w.heap[b]?

/-- The assertions hold of parts of the piece that lie apart. -/
def Has : List Assn → Piece → Prop
  | [], _ => True
  | A :: l, h => ∃ h1 h2 : Piece, Piece.disj h1 h2 ∧ Piece.le h1 h ∧ Piece.le h2 h ∧ A h1 ∧ Has l h2

theorem Piece.le_refl (h : Piece) : Piece.le h h := ⟨fun _ _ e => e⟩
theorem Piece.le.le_trans {a b c : Piece} (h : Piece.le a b) (k : Piece.le b c) : Piece.le a c := ⟨fun _ _ e => k.p _ _ (h.p _ _ e)⟩
theorem Piece.disj.disj_symm {a b : Piece} (h : Piece.disj a b) : Piece.disj b a := ⟨fun x => (h.p x).symm⟩
theorem Piece.disj.disj_le {a b c : Piece} (h : Piece.disj a b) (k : Piece.le c b) : Piece.disj a c := ⟨fun x => by
  rcases h.p x with h | h
  · exact .inl h
  · cases hc : c x with
    | none => exact .inr rfl
    | some o => rw [k.p _ _ hc] at h; cases h⟩
def Piece.add (a b : Piece) : Piece := fun x => (a x).or (b x)
theorem Piece.le_add_left (a b : Piece) : Piece.le a (Piece.add a b) := ⟨fun x o h => by simp [Piece.add, h]⟩
theorem Piece.le_add_right {a b : Piece} (hd : Piece.disj a b) : Piece.le b (Piece.add a b) := ⟨fun x o h => by
  rcases hd.p x with k | k
  · simp [Piece.add, k, h]
  · rw [k] at h; cases h⟩
theorem Piece.add_le {a b c : Piece} (h : Piece.le a c) (k : Piece.le b c) : (Piece.add a b).le c := ⟨fun x o e => by
  unfold Piece.add at e
  cases ha : a x with
  | none => rw [ha] at e; exact k.p _ _ (by simpa using e)
  | some p => rw [ha] at e; simp at e; subst e; exact h.p _ _ ha⟩
theorem Piece.add_disj {a b c : Piece} (h : Piece.disj a c) (k : Piece.disj b c) : (Piece.add a b).disj c := ⟨fun x => by
  rcases h.p x with h | h
  · rcases k.p x with k | k
    · exact .inl (by simp [Piece.add, h, k])
    · exact .inr k
  · exact .inr h⟩

theorem Has.mono : ∀ {l : List Assn} {h k : Piece}, Piece.le h k → Has l h → Has l k
  | [], _, _, _, _ => trivial
  | _ :: _, _, _, hk, ⟨h1, h2, a, b, c, d, e⟩ => ⟨h1, h2, a, b.le_trans hk, c.le_trans hk, d, e⟩

theorem Has.swap {A B : Assn} {l : List Assn} {h : Piece} (H : Has (A :: B :: l) h) : Has (B :: A :: l) h := by
  obtain ⟨h1, h2, d1, a1, a2, hA, k1, k2, d2, b1, b2, hB, hl⟩ := H
  have e1 := d1.disj_le b1
  have e2 := d1.disj_le b2
  exact ⟨k1, Piece.add h1 k2, (Piece.add_disj e1 (Piece.disj.disj_symm d2)).disj_symm, b1.le_trans a2, Piece.add_le a1 (b2.le_trans a2), hB, h1, k2, e2, Piece.le_add_left _ _, Piece.le_add_right e2, hA, hl⟩

theorem Has.tail {A : Assn} {l : List Assn} {h : Piece} (H : Has (A :: l) h) : Has l h := by
  obtain ⟨_, h2, _, _, a2, _, hl⟩ := H
  exact Has.mono a2 hl

theorem Has.weaken {A A' : Assn} {l : List Assn} {h : Piece} (hA : ∀ k, A k → A' k) (H : Has (A :: l) h) : Has (A' :: l) h := by
  obtain ⟨h1, h2, d, a1, a2, a, b⟩ := H
  exact ⟨h1, h2, d, a1, a2, hA _ a, b⟩

theorem Has.split : ∀ {l m : List Assn} {h : Piece}, Has (l ++ m) h → ∃ h1 h2 : Piece, Piece.disj h1 h2 ∧ Piece.le h1 h ∧ Piece.le h2 h ∧ Has l h1 ∧ Has m h2
  | [], m, h, H => ⟨fun _ => none, h, ⟨fun _ => .inl rfl⟩, ⟨fun _ _ e => (by cases e)⟩, Piece.le_refl h, trivial, H⟩
  | A :: l, m, h, ⟨h1, h2, d, a1, a2, hA, H⟩ => by
    obtain ⟨k1, k2, d2, b1, b2, hl, hm⟩ := Has.split H
    have e1 := d.disj_le b1
    have e2 := d.disj_le b2
    exact ⟨Piece.add h1 k1, k2, Piece.add_disj e2 d2, Piece.add_le a1 (b1.le_trans a2), b2.le_trans a2, ⟨h1, k1, e1, Piece.le_add_left _ _, Piece.le_add_right e1, hA, hl⟩, hm⟩

theorem Has.join : ∀ {l m : List Assn} {h h1 h2 : Piece}, Piece.disj h1 h2 → Piece.le h1 h → Piece.le h2 h → Has l h1 → Has m h2 → Has (l ++ m) h
  | [], _, _, _, _, _, _, b, _, H => Has.mono b H
  | A :: l, m, h, h1, h2, d, a, b, ⟨k1, k2, e, c1, c2, hA, H⟩, K => by
    have d1 := (d.disj_symm.disj_le c1).disj_symm
    have d2 := (d.disj_symm.disj_le c2).disj_symm
    exact ⟨k1, Piece.add k2 h2, (Piece.add_disj e.disj_symm d1.disj_symm).disj_symm, c1.le_trans a, Piece.add_le (c2.le_trans a) b, hA, Has.join d2 (Piece.le_add_left _ _) (Piece.le_add_right d2) H K⟩

/-! assertions -/
def blk (g : Nat) (C : List Value) (t : TypeId) : Assn := fun h => h g = some (.cells C.toArray t (0, 0))
def pu (p : Prop) : Assn := fun _ => p
def sepL (l : List Assn) : Assn := fun h => Has l h

theorem Has.open_sepL {l m : List Assn} {h : Piece} (H : Has (sepL l :: m) h) : Has (l ++ m) h := by
  obtain ⟨h1, h2, d, a, b, hl, hm⟩ := H
  exact Has.join d a b hl hm
theorem Has.close_sepL {l m : List Assn} {h : Piece} (H : Has (l ++ m) h) : Has (sepL l :: m) h := by
  obtain ⟨h1, h2, d, a, b, hl, hm⟩ := Has.split H
  exact ⟨h1, h2, d, a, b, hl, hm⟩
theorem Has.close_pu {p : Prop} {m : List Assn} {h : Piece} (hp : p) (H : Has m h) : Has (pu p :: m) h := ⟨fun _ => none, h, ⟨fun _ => .inl rfl⟩, ⟨fun _ _ e => (by cases e)⟩, Piece.le_refl h, hp, H⟩

/-! what stays throughout: the outer world, and blocks that are only read -/
structure Base where
  os : Os
  tape : Nat → Question → Nat
  output : Array (Nat × ByteArray)
  ro : Piece

/-- A world over the base that has these assertions, apart from the base's own blocks. -/
structure Own (B : Base) (w : World) (l : List Assn) : Prop where
  os : w.os = B.os
  tape : w.tape = B.tape
  output : w.output = B.output
  ro : Piece.le B.ro (World.piece w)
  has : ∃ h : Piece, Piece.disj h B.ro ∧ Piece.le h (World.piece w) ∧ Has l h

theorem Own.map {B : Base} {w : World} {l m : List Assn} (H : Own B w l) (f : ∀ h, Has l h → Has m h) : Own B w m :=
  ⟨H.os, H.tape, H.output, H.ro, let ⟨h, a, b, c⟩ := H.has; ⟨h, a, b, f _ c⟩⟩

theorem Own.drew {B : Base} {w : World} {l : List Assn} (H : Own B w l) : Own B w.drew l := ⟨H.os, H.tape, H.output, H.ro, H.has⟩

/-- A world that is kept but for blocks of the first assertion's. -/
theorem Own.kept {B : Base} {w w' : World} {A A' : Assn} {l : List Assn} {fp : List Nat} (H : Own B w (A :: l)) (hk : Kept fp w w') (hfp : ∀ h, A h → ∀ g ∈ fp, ∃ o, h g = some o)
    (hA : ∀ h1 h : Piece, A h1 → Piece.le h1 (World.piece w) → (∀ b, b ∈ fp ∨ w.heap.size ≤ b → h b = w'.heap[b]?) → (∀ b o, h1 b = some o → b ∉ fp → h b = some o) → A' h) : Own B w' (A' :: l) := by
  obtain ⟨h, hd, hl, h1, h2, d, a1, a2, hA1, H2⟩ := H.has
  have old : ∀ b o, w.heap[b]? = some o → b ∉ fp → w'.heap[b]? = some o := fun b o e hn => (hk.block b (lt_of_block e) hn).trans e
  have lt : ∀ {k : Piece} {b o}, Piece.le k (World.piece w) → k b = some o → b < w.heap.size := fun hk e => lt_of_block (hk.p _ _ e)
  have r0 : ∀ g ∈ fp, B.ro g = none ∧ h2 g = none := fun g hg => by
    obtain ⟨o, ho⟩ := hfp _ hA1 g hg
    refine ⟨?_, ?_⟩
    · rcases hd.p g with k | k
      · rw [a1.p _ _ ho] at k; cases k
      · exact k
    · rcases d.p g with k | k
      · rw [ho] at k; cases k
      · exact k
  let n1 : Piece := fun b => if b ∈ fp ∨ w.heap.size ≤ b then w'.heap[b]? else h1 b
  have e1 : Piece.le n1 (World.piece w') := ⟨fun b o e => by
    simp only [n1] at e
    split at e
    · exact e
    · rename_i hn; exact old b o (hl.p _ _ (a1.p _ _ e)) (fun hm => hn (.inl hm))⟩
  have e2 : Piece.le h2 (World.piece w') := ⟨fun b o e => old b o (hl.p _ _ (a2.p _ _ e)) (fun hm => by rw [(r0 b hm).2] at e; cases e)⟩
  have e3 : Piece.le B.ro (World.piece w') := ⟨fun b o e => old b o (H.ro.p _ _ e) (fun hm => by rw [(r0 b hm).1] at e; cases e)⟩
  have d12 : Piece.disj n1 h2 := ⟨fun b => by
    simp only [n1]
    split
    · rename_i hn
      rcases hn with hm | hm
      · exact .inr (r0 b hm).2
      · refine .inr ?_
        cases hb : h2 b with
        | none => rfl
        | some o => have := lt (a2.le_trans hl) hb; omega
    · exact d.p b⟩
  have d1r : Piece.disj n1 B.ro := ⟨fun b => by
    simp only [n1]
    split
    · rename_i hn
      rcases hn with hm | hm
      · exact .inr (r0 b hm).1
      · refine .inr ?_
        cases hb : B.ro b with
        | none => rfl
        | some o => have := lt H.ro hb; omega
    · exact ((hd.disj_symm.disj_le a1).disj_symm).p b⟩
  have d2r : Piece.disj h2 B.ro := (hd.disj_symm.disj_le a2).disj_symm
  refine ⟨hk.os.trans H.os, hk.tape.trans H.tape, hk.output.trans H.output, e3, Piece.add n1 h2, Piece.add_disj d1r d2r, Piece.add_le e1 e2, n1, h2, d12, Piece.le_add_left _ _, Piece.le_add_right d12, ?_, H2⟩
  exact hA h1 n1 hA1 (a1.le_trans hl) (fun b hb => by simp only [n1]; rw [if_pos hb]) (fun b o e hn => by
    simp only [n1]
    rw [if_neg (fun hm => hm.elim hn (fun h => by have := lt (a1.le_trans hl) e; omega))]; exact e)

/-- New blocks alone. -/
theorem Own.fresh {B : Base} {w w' : World} {A' : Assn} {l : List Assn} (H : Own B w l) (hk : Kept [] w w') (hA : ∀ h : Piece, (∀ b, w.heap.size ≤ b → h b = w'.heap[b]?) → A' h) : Own B w' (A' :: l) :=
  Own.kept (A := pu True) (fp := []) (H.map fun _ k => Has.close_pu trivial k) hk (by simp) (fun _ h _ _ e _ => hA h fun b hb => e b (.inr hb))

theorem Own.quiet {B : Base} {w w' : World} {l : List Assn} (H : Own B w l) (hk : Kept [] w w') : Own B w' l :=
  (Own.fresh (A' := pu True) H hk fun _ _ => trivial).map fun _ k => k.tail

/-- A block's content. -/
theorem Own.get {B : Base} {w : World} {g : Nat} {C : List Value} {t : TypeId} {l : List Assn} (H : Own B w (blk g C t :: l)) : w.heap[g]? = some (.cells C.toArray t (0, 0)) := by
  obtain ⟨h, _, hl, h1, _, _, a1, _, hA, _⟩ := H.has
  exact hl.p _ _ (a1.p _ _ hA)

theorem Own.alloc {B : Base} {w : World} {l : List Assn} (H : Own B w l) (C : List Value) (t : TypeId) : Own B (w.alloc (.cells C.toArray t)) (blk w.heap.size C t :: l) :=
  Own.fresh H ((Kept.refl _ _).alloc _) fun h e => by
    have := e w.heap.size (Nat.le_refl _)
    unfold blk
    rw [this]
    exact heap_alloc_new w _

theorem Own.setRow {B : Base} {w : World} {l : List Assn} {g : Nat} {C D : List Value} {t : TypeId} (H : Own B w (blk g C t :: l)) : Own B (w.setRow g D.toArray) (blk g D t :: l) :=
  Own.kept (fp := [g]) H ((Kept.refl _ _).setRow (by simp) _) (fun h e g' hg => by simp at hg; subst hg; exact ⟨_, e⟩) (fun h1 h _ _ e _ => by
    have := e g (.inl (by simp))
    unfold blk
    rw [this]
    exact setRow_heap w g _ D.toArray t _ H.get)

/-- A slice of its own: n elements of sz cells, in a block that may have room for more. -/
def row (v : Value) (e : TypeId) (sz n : Nat) (xs : List Value) : Assn := fun h =>
  xs.length = n * sz ∧ ((v = .slice none 0 0 ∧ n = 0) ∨
    ∃ g cap cur, v = .slice (some ⟨g, 0, none⟩) n cap ∧ h g = some (.cells cur e (0, 0)) ∧ n ≤ cap ∧ cap ≤ maxLen ∧ cur.size = cap * sz ∧ cur.toList.take (n * sz) = xs)

/-! finding and taking out, by instances -/
/-- The first cells of block g are C. -/
class CellsAt (g : Nat) (l : List Assn) (C : outParam (List Value)) : Prop where
  find : ∀ h, Has l h → ∃ X t fr, h g = some (.cells (C ++ X).toArray t fr)
instance (g : Nat) (l : List Assn) (C : List Value) (t : TypeId) : CellsAt g (blk g C t :: l) C := ⟨fun _ ⟨_, _, _, a, _, e, _⟩ => ⟨[], t, (0, 0), by rw [List.append_nil]; exact a.p _ _ e⟩⟩
instance (g : Nat) (A : Assn) (l : List Assn) (C : List Value) [k : CellsAt g l C] : CellsAt g (A :: l) C := ⟨fun _ H => k.find _ H.tail⟩
instance (g n cap : Nat) (e : TypeId) (sz : Nat) (l : List Assn) (xs : List Value) : CellsAt g (row (.slice (some ⟨g, 0, none⟩) n cap) e sz n xs :: l) xs := ⟨fun h ⟨h1, _, _, a, _, ⟨hl, e1⟩, _⟩ => by
  rcases e1 with ⟨e1, _⟩ | ⟨g', cap', cur, e1, e2, _, _, _, e3⟩
  · cases e1
  · injection e1 with e1 _ _
    injection e1 with e1
    injection e1 with e1
    subst e1
    refine ⟨cur.toList.drop (n * sz), e, (0, 0), ?_⟩
    rw [a.p _ _ e2, ← e3, List.take_append_drop]⟩
/-- The first cells of block g are C; when they are D, r holds. -/
class StoreAt (g : Nat) (l : List Assn) (C : outParam (List Value)) (D : List Value) (r : outParam (List Assn)) : Prop where
  cut : D.length = C.length → ∀ h, Has l h → ∃ X t m, Has (blk g (C ++ X) t :: m) h ∧ ∀ h', Has (blk g (D ++ X) t :: m) h' → Has r h'
instance (g : Nat) (C D : List Value) (t : TypeId) (l : List Assn) : StoreAt g (blk g C t :: l) C D (blk g D t :: l) := ⟨fun _ h H => ⟨[], t, l, by simpa using H, fun h' H' => by simpa using H'⟩⟩
instance (g : Nat) (A : Assn) (l r : List Assn) (C D : List Value) [k : StoreAt g l C D r] : StoreAt g (A :: l) C D (A :: r) := ⟨fun hd h H => by
  obtain ⟨h1, h2, d, a, b, e, H2⟩ := H
  obtain ⟨X, t, m, e1, e2⟩ := k.cut hd h2 H2
  exact ⟨X, t, A :: m, Has.swap ⟨h1, h2, d, a, b, e, e1⟩, fun h' H' => by
    obtain ⟨k1, k2, d', a', b', e', H3⟩ := Has.swap H'
    exact ⟨k1, k2, d', a', b', e', e2 _ H3⟩⟩⟩
instance (g n cap : Nat) (e : TypeId) (sz : Nat) (l : List Assn) (C D : List Value) : StoreAt g (row (.slice (some ⟨g, 0, none⟩) n cap) e sz n C :: l) C D (row (.slice (some ⟨g, 0, none⟩) n cap) e sz n D :: l) := ⟨fun hd h H => by
  obtain ⟨h1, h2, d, a, b, ⟨hl, e1⟩, H2⟩ := H
  rcases e1 with ⟨e1, _⟩ | ⟨g', cap', cur, e1, e2, c1, c2, c3, e3⟩
  · cases e1
  · injection e1 with e1 _ ec
    injection e1 with e1
    injection e1 with e1
    subst e1; subst ec
    have hc : (C ++ cur.toList.drop (n * sz)).toArray = cur := by rw [← e3, List.take_append_drop]
    refine ⟨cur.toList.drop (n * sz), e, l, ⟨h1, h2, d, a, b, by unfold blk; rw [hc]; exact e2, H2⟩, fun h' ⟨k1, k2, d', a', b', e', H3⟩ => ⟨k1, k2, d', a', b', ⟨hd.trans hl, .inr ⟨g, cap, _, rfl, e', c1, c2, ?_, ?_⟩⟩, H3⟩⟩
    · simp [hd, hl]
      have : n * sz ≤ cap * sz := Nat.mul_le_mul_right _ c1
      omega
    · simp [← hl, ← hd]⟩

class FindB (g : Nat) (l : List Assn) (C : outParam (List Value)) (t : outParam TypeId) : Prop where
  find : ∀ h, Has l h → h g = some (.cells C.toArray t (0, 0))
instance (g : Nat) (l : List Assn) (C : List Value) (t : TypeId) : FindB g (blk g C t :: l) C t := ⟨fun _ ⟨_, _, _, a, _, e, _⟩ => a.p _ _ e⟩
instance (g : Nat) (A : Assn) (l : List Assn) (C : List Value) (t : TypeId) [k : FindB g l C t] : FindB g (A :: l) C t := ⟨fun _ H => k.find _ H.tail⟩

class TakeA (A : Assn) (l : List Assn) (r : outParam (List Assn)) : Prop where
  take : ∀ h, Has l h → Has (A :: r) h
instance (A : Assn) (l : List Assn) : TakeA A (A :: l) l := ⟨fun _ H => H⟩
instance (A B : Assn) (l r : List Assn) [k : TakeA A l r] : TakeA A (B :: l) (B :: r) := ⟨fun _ ⟨h1, h2, d, a, b, e, H⟩ => Has.swap ⟨h1, h2, d, a, b, e, k.take _ H⟩⟩

/-- The row of slice v is taken out. -/
class TakeR (v : Value) (l : List Assn) (e sz n : outParam Nat) (xs : outParam (List Value)) (r : outParam (List Assn)) : Prop where
  take : ∀ h, Has l h → Has (row v e sz n xs :: r) h
instance (v : Value) (e sz n : Nat) (xs : List Value) (l : List Assn) : TakeR v (row v e sz n xs :: l) e sz n xs l := ⟨fun _ H => H⟩
instance (v : Value) (e sz n : Nat) (xs : List Value) (A : Assn) (l r : List Assn) [k : TakeR v l e sz n xs r] : TakeR v (A :: l) e sz n xs (A :: r) := ⟨fun _ ⟨h1, h2, d, a, b, e, H⟩ => Has.swap ⟨h1, h2, d, a, b, e, k.take _ H⟩⟩

class TakeL (m : List Assn) (l : List Assn) (r : outParam (List Assn)) : Prop where
  take : ∀ h, Has l h → Has (m ++ r) h
instance (l : List Assn) : TakeL [] l l := ⟨fun _ H => H⟩
theorem Has.cons_imp {A : Assn} {l m : List Assn} {h : Piece} (f : ∀ k, Has l k → Has m k) : Has (A :: l) h → Has (A :: m) h := fun ⟨h1, h2, d, a, b, e, H⟩ => ⟨h1, h2, d, a, b, e, f _ H⟩
instance (A : Assn) (m l l' r : List Assn) [k1 : TakeA A l l'] [k2 : TakeL m l' r] : TakeL (A :: m) l r := ⟨fun _ H => Has.cons_imp k2.take (k1.take _ H)⟩

instance (m F : List Assn) : TakeL m (m ++ F) F := ⟨fun _ H => H⟩
theorem Has.under {A : Assn} : ∀ {m r : List Assn} {h : Piece}, Has (A :: (m ++ r)) h → Has (m ++ A :: r) h
  | [], _, _, H => H
  | _ :: _, _, _, H => Has.cons_imp (fun _ k => Has.under k) (Has.swap H)
instance (priority := low) (A : Assn) (m l r : List Assn) [k : TakeL m l r] : TakeL m (A :: l) (A :: r) := ⟨fun _ H => Has.under (Has.cons_imp k.take H)⟩

/-- The block g now bears D. -/
class ReplB (g : Nat) (l : List Assn) (D : List Value) (r : outParam (List Assn)) : Prop where
  cut : ∃ C t m, (∀ h, Has l h → Has (blk g C t :: m) h) ∧ ∀ h, Has (blk g D t :: m) h → Has r h
instance (g : Nat) (C D : List Value) (t : TypeId) (l : List Assn) : ReplB g (blk g C t :: l) D (blk g D t :: l) := ⟨C, t, l, fun _ H => H, fun _ H => H⟩
instance (g : Nat) (A : Assn) (D : List Value) (l r : List Assn) [k : ReplB g l D r] : ReplB g (A :: l) D (A :: r) := ⟨by
  obtain ⟨C, t, m, h1, h2⟩ := k.cut
  exact ⟨C, t, A :: m, fun h H => Has.swap (Has.cons_imp h1 H), fun h H => Has.cons_imp h2 (Has.swap H)⟩⟩

theorem Own.find {B : Base} {w : World} {g : Nat} {l : List Assn} {C : List Value} {t : TypeId} (H : Own B w l) [k : FindB g l C t] : w.heap[g]? = some (.cells C.toArray t (0, 0)) := by
  obtain ⟨h, _, hl, e⟩ := H.has
  exact hl.p _ _ (k.find _ e)
theorem Own.cells {B : Base} {w : World} {g : Nat} {l : List Assn} {C : List Value} (H : Own B w l) [k : CellsAt g l C] : ∃ X t fr, w.heap[g]? = some (.cells (C ++ X).toArray t fr) := by
  obtain ⟨h, _, hl, e⟩ := H.has
  obtain ⟨X, t, fr, hx⟩ := k.find _ e
  exact ⟨X, t, fr, hl.p _ _ hx⟩
theorem Own.store {B : Base} {w : World} {g : Nat} {l r : List Assn} {C D : List Value} (H : Own B w l) (hd : D.length = C.length) [k : StoreAt g l C D r] :
    ∃ X t, w.heap[g]? = some (.cells (C ++ X).toArray t (0, 0)) ∧ Own B (w.setRow g (D ++ X).toArray) r := by
  obtain ⟨h, hd1, hl, e⟩ := H.has
  obtain ⟨X, t, m, e1, e2⟩ := k.cut hd h e
  have H' : Own B w (blk g (C ++ X) t :: m) := ⟨H.os, H.tape, H.output, H.ro, h, hd1, hl, e1⟩
  exact ⟨X, t, H'.get, (Own.setRow H').map e2⟩
theorem Own.take {B : Base} {w : World} {A : Assn} {l r : List Assn} (H : Own B w l) [k : TakeA A l r] : Own B w (A :: r) := H.map k.take
theorem Own.takeR {B : Base} {w : World} {v : Value} {e sz n : Nat} {xs : List Value} {l r : List Assn} (H : Own B w l) [k : TakeR v l e sz n xs r] : Own B w (row v e sz n xs :: r) := H.map k.take
theorem Own.takeL {B : Base} {w : World} {m l r : List Assn} (H : Own B w l) [k : TakeL m l r] : Own B w (m ++ r) := H.map k.take
theorem Own.drop {B : Base} {w : World} {m l : List Assn} (H : Own B w (m ++ l)) : Own B w m := H.map fun _ k => by
  obtain ⟨_, _, _, a, _, hm, _⟩ := Has.split k
  exact hm.mono a
end Go.Proofs.Ytopbkdpbljebgaa

/- Frames as functions, and the judgements of a walk over assertions: codes, lists of operations, regions that draw their order. Conditions: none. -/
set_option linter.unusedSimpArgs false
set_option linter.unusedVariables false
namespace Go.Proofs.Ytopbkdpbljebgaa
open Go.RowKit

abbrev Fr := Nat → Option Value
def upd (f : Fr) (d : Nat) (v : Value) : Fr := fun i => bif Nat.beq i d then some v else f i
def tm (n : Nat) (f : Fr) : Array Value := ((List.range n).map fun i => (f i).getD undef).toArray
def act (n : Nat) (f : Fr) : Act := ⟨tm n f, []⟩
def ev (n : Nat) (f : Fr) : Operand → Option Value
  | .tmp t => bif Nat.blt t n then f t else none
  | .const v => some v
  | .global g => some (.pointer (some ⟨g, 0, none⟩))
  | .func g => some (.func (.func g) #[] #[])
def evu (n : Nat) (f : Fr) (x : Operand) : Value := (ev n f x).getD undef
theorem evu_eq {n : Nat} {f : Fr} {x : Operand} {v : Value} (h : ev n f x = some v) : evu n f x = v := by rw [evu, h]; rfl
def putd (f : Fr) : Option Nat → Value → Fr
  | some d, v => upd f d v
  | none, _ => f

theorem tm_getElem? (n : Nat) (f : Fr) (t : Nat) : (tm n f)[t]? = if t < n then some ((f t).getD undef) else none := by
  unfold tm
  simp [List.getElem?_range]
  split <;> simp_all
theorem blt_eq (t n : Nat) : Nat.blt t n = decide (t < n) := by
  by_cases h : t < n
  · rw [decide_eq_true h, Nat.blt_eq]; exact h
  · rw [decide_eq_false h]
    cases hb : Nat.blt t n with
    | false => rfl
    | true => exact absurd (Nat.blt_eq ▸ hb) h
theorem eval_act (n : Nat) (f : Fr) (x : Operand) : (act n f).eval x = evu n f x := by
  cases x with
  | tmp t =>
    simp only [Act.eval, act, evu, ev, blt_eq]
    rw [Array.getD_eq_getD_getElem?, tm_getElem?]
    by_cases h : t < n <;> simp [h]
  | _ => rfl
theorem eval_act' (n : Nat) (f : Fr) : (act n f).eval = evu n f := funext (eval_act n f)
theorem upd_at (f : Fr) (d : Nat) (v : Value) : upd f d v d = some v := by simp [upd]
theorem upd_ne (f : Fr) {d i : Nat} (v : Value) (h : i ≠ d) : upd f d v i = f i := by
  have : Nat.beq i d = false := by
    cases hb : Nat.beq i d with
    | false => rfl
    | true => exact absurd (Nat.eq_of_beq_eq_true hb) h
  simp [upd, this]
theorem put_act (n : Nat) (f : Fr) (d : Option Nat) (v : Value) : (act n f).put d v = act n (putd f d v) := by
  cases d with
  | none => rfl
  | some d =>
    simp only [Act.put, act, putd]
    congr 1
    apply Array.ext_getElem?
    intro i
    rw [tm_getElem?, Array.getElem?_setIfInBounds, tm_getElem?]
    by_cases h : d = i
    · subst h; simp [tm, upd_at]
    · rw [if_neg h, upd_ne f v (fun e => h e.symm)]
theorem upd_self {f : Fr} {d : Nat} {v : Value} (h : f d = some v) : upd f d v = f := by
  funext i
  by_cases e : i = d
  · subst e; rw [upd_at, h]
  · rw [upd_ne f v e]

/-- The frame with these slots. -/
def U (f : Fr) : List (Nat × Value) → Fr
  | [] => f
  | p :: l => upd (U f l) p.1 p.2
/-- A judgement's post: an exit, a frame, assertions. -/
abbrev Post := Exit → Fr → List Assn → Prop
def PanicKeeps (Q : Exit → Act → World → Prop) : Prop := ∀ c a d v w, Q (.panic c) (a.put d v) w → Q (.panic c) a w
structure Fits (B : Base) (n : Nat) (Φ : Post) (Q : Exit → Act → World → Prop) : Prop where
  go : ∀ e f w l, Φ e f l → Own B w l → Q e (act n f) w
  pk : PanicKeeps Q

structure T (P : Program) (B : Base) (n : Nat) (c : Code) (Φ : Post) (f : Fr) (l : List Assn) : Prop where
  run : ∀ Q w, Fits B n Φ Q → Own B w l → c.wp P Q (act n f) w
structure LW (P : Program) (B : Base) (n : Nat) (ops : Array Oper) (rest : List Oper) (Φ : Post) (f : Fr) (l : List Assn) : Prop where
  run : ∀ Q w, Fits B n Φ Q → Own B w l → wpList P ops Q rest (act n f) w
/-- A quiet operation: it yields v in each world that has S, and leaves it. -/
structure Qt (P : Program) (B : Base) (n : Nat) (S : List Assn) (o : Oper) (f : Fr) (v : Value) : Prop where
  run : ∀ w, Own B w S → (execOp (evu n f) o).run P w = .ok (.value v) w
/-- An operation that acts: what it yields and leaves serves K. -/
structure Ef (P : Program) (B : Base) (n : Nat) (o : Oper) (f : Fr) (l : List Assn) (K : Value → List Assn → Prop) : Prop where
  run : ∀ w next Q, Own B w l → (∀ v w' l', K v l' → Own B w' l' → next ((act n f).put o.dst v) w') → o.wp P (act n f) w next Q

def want (n : Nat) (ops : Array Oper) (f : Fr) (o : Oper) : Bool :=
  match o.guard with
  | none => true
  | some (j, b) => match (ops[j]?).bind (·.dst) with
    | none => false
    | some t => bif Nat.blt t n then (match f t with | some (.bool c) => c == b | _ => false) else false
theorem want_eq (n : Nat) (ops : Array Oper) (f : Fr) (o : Oper) : Region.wanted o (yielded ops (act n f).tmps) = want n ops f o := by
  unfold Region.wanted want
  cases hg : o.guard with
  | none => rfl
  | some p =>
    obtain ⟨j, b⟩ := p
    simp only [yielded, act]
    cases hd : (ops[j]?).bind (·.dst) with
    | none => simp
    | some t =>
      simp only [Option.bind_some, tm_getElem?, blt_eq]
      by_cases h : t < n
      · simp only [h, if_true, decide_true, cond_true]
        cases f t with
        | none => simp [undef]
        | some v => cases v <;> simp
      · simp [h]

section
variable {P : Program} {B : Base} {n : Nat} {ops : Array Oper} {rest : List Oper} {o : Oper} {Φ : Post} {f : Fr} {l : List Assn}

theorem LW.quiet {v : Value} (hw : want n ops f o = true) (hq : Qt P B n l o f v) (h : LW P B n ops rest Φ (putd f o.dst v) l) : LW P B n ops (o :: rest) Φ f l := ⟨fun Q w hf ho => by
  unfold wpList
  rw [want_eq, if_pos hw]
  refine .inl ?_
  unfold Oper.wp
  rw [eval_act', hq.run w ho]
  show wpList P ops Q rest ((act n f).put o.dst v) w
  rw [put_act]
  exact h.run Q w hf ho⟩
theorem LW.eff (hw : want n ops f o = true) (he : Ef P B n o f l fun v l' => LW P B n ops rest Φ (putd f o.dst v) l') : LW P B n ops (o :: rest) Φ f l := ⟨fun Q w hf ho => by
  unfold wpList
  rw [want_eq, if_pos hw]
  refine .inl (he.run w _ Q ho fun v w' l' k ho' => ?_)
  rw [put_act]
  exact k.run Q w' hf ho'⟩
theorem LW.skip (hw : want n ops f o = false) (h : LW P B n ops rest Φ (putd f o.dst undef) l) : LW P B n ops (o :: rest) Φ f l := ⟨fun Q w hf ho => by
  unfold wpList
  rw [want_eq, hw, if_neg (by simp), put_act]
  exact h.run Q w hf ho⟩
section named
variable {t : Tmp} {op : Op} {ty : TypeId} {pos : String} {af : Array Edge} {gd : Option (Nat × Bool)}
theorem LW.q {v : Value} (hw : want n ops f ⟨some t, op, ty, pos, af, gd⟩ = true) (hq : Qt P B n l ⟨some t, op, ty, pos, af, gd⟩ f v) (h : LW P B n ops rest Φ (upd f t v) l) : LW P B n ops (⟨some t, op, ty, pos, af, gd⟩ :: rest) Φ f l := LW.quiet hw hq h
theorem LW.e (hw : want n ops f ⟨some t, op, ty, pos, af, gd⟩ = true) (he : Ef P B n ⟨some t, op, ty, pos, af, gd⟩ f l fun v l' => LW P B n ops rest Φ (upd f t v) l') : LW P B n ops (⟨some t, op, ty, pos, af, gd⟩ :: rest) Φ f l := LW.eff hw he
theorem LW.e0 (hw : want n ops f ⟨none, op, ty, pos, af, gd⟩ = true) (he : Ef P B n ⟨none, op, ty, pos, af, gd⟩ f l fun _ l' => LW P B n ops rest Φ f l') : LW P B n ops (⟨none, op, ty, pos, af, gd⟩ :: rest) Φ f l := LW.eff hw he
theorem LW.s (hw : want n ops f ⟨some t, op, ty, pos, af, gd⟩ = false) (h : LW P B n ops rest Φ (upd f t undef) l) : LW P B n ops (⟨some t, op, ty, pos, af, gd⟩ :: rest) Φ f l := LW.skip hw h
end named
theorem LW.done (h : Φ .normal f l) : LW P B n ops [] Φ f l := ⟨fun _ w hf ho => hf.go _ _ w _ h ho⟩
theorem LW.split {t : Nat} {b : Bool} (hb : f t = some (.bool b)) (h1 : b = true → LW P B n ops rest Φ (upd f t (.bool true)) l) (h2 : b = false → LW P B n ops rest Φ (upd f t (.bool false)) l) : LW P B n ops rest Φ f l := by
  cases b with
  | true => have := h1 rfl; rwa [upd_self hb] at this
  | false => have := h2 rfl; rwa [upd_self hb] at this
theorem LW.gT {t : Nat} {b : Bool} (hb : f t = some (.bool b)) (h : b = true) (h1 : LW P B n ops rest Φ (upd f t (.bool true)) l) : LW P B n ops rest Φ f l := by subst h; rwa [upd_self hb] at h1
theorem LW.gF {t : Nat} {b : Bool} (hb : f t = some (.bool b)) (h : b = false) (h1 : LW P B n ops rest Φ (upd f t (.bool false)) l) : LW P B n ops rest Φ f l := by subst h; rwa [upd_self hb] at h1
/-- What the assertions say is plain. -/
theorem LW.own (h : ∀ w, Own B w l → LW P B n ops rest Φ f l) : LW P B n ops rest Φ f l := ⟨fun Q w hf ho => (h w ho).run Q w hf ho⟩
theorem LW.conv {l' : List Assn} (hc : ∀ w, Own B w l → Own B w l') (h : LW P B n ops rest Φ f l') : LW P B n ops rest Φ f l := ⟨fun Q w hf ho => h.run Q w hf (hc w ho)⟩

def Sub (l S : List Assn) : Prop := ∀ h, Has l h → Has S h
theorem Sub.refl (l : List Assn) : Sub l l := fun _ h => h
/-- The list ends in F. -/
class Tail (l F : List Assn) : Prop where
  tl : ∀ h, Has l h → Has F h
instance (F : List Assn) : Tail F F := ⟨fun _ h => h⟩
instance (A : Assn) (l F : List Assn) [k : Tail l F] : Tail (A :: l) F := ⟨fun _ h => k.tl _ h.tail⟩
class SubC (l m : List Assn) : Prop where
  sub : Sub l m
instance (l l' r F : List Assn) [k : TakeL l' l r] [t : Tail r F] : SubC l (l' ++ F) := ⟨fun _ H => by
  obtain ⟨h1, h2, d, a, b, e1, e2⟩ := Has.split (k.take _ H)
  exact Has.join d a b e1 (t.tl _ e2)⟩
instance (A : Assn) (l r m : List Assn) [k : TakeA A l r] [t : SubC r m] : SubC l (A :: m) := ⟨fun _ H => Has.cons_imp t.sub (k.take _ H)⟩
instance (priority := low) (l F : List Assn) [t : Tail l F] : SubC l F := ⟨t.tl⟩
instance (l : List Assn) : SubC l [] := ⟨fun _ _ => trivial⟩
instance (priority := 20) (l m r : List Assn) [k : TakeL m l r] : SubC l m := ⟨fun h H => by
  obtain ⟨_, _, _, a, _, hm, _⟩ := Has.split (k.take h H)
  exact hm.mono a⟩
theorem Sub.any {l m : List Assn} [k : SubC l m] : Sub l m := k.sub

theorem updS {f g : Fr} {d : Nat} {v : Value} (h : f d = some v) (e : f = g) : f = upd g d v := by rw [← e, upd_self h]

/-! codes -/
theorem T.own {c : Code} (h : ∀ w, Own B w l → T P B n c Φ f l) : T P B n c Φ f l := ⟨fun Q w hf ho => (h w ho).run Q w hf ho⟩
theorem T.conv {c : Code} {l' : List Assn} (hc : ∀ w, Own B w l → Own B w l') (h : T P B n c Φ f l') : T P B n c Φ f l := ⟨fun Q w hf ho => h.run Q w hf (hc w ho)⟩
theorem T.skip (h : Φ .normal f l) : T P B n .skip Φ f l := ⟨fun _ w hf ho => wp_skip (hf.go _ _ w _ h ho)⟩
theorem T.ret (h : Φ .ret f l) : T P B n .ret Φ f l := ⟨fun _ w hf ho => wp_ret (hf.go _ _ w _ h ho)⟩
theorem T.exit {id : Nat} (h : Φ (.exit id) f l) : T P B n (.exit id) Φ f l := ⟨fun _ w hf ho => wp_exit (hf.go _ _ w _ h ho)⟩
def thenP (K : Fr → List Assn → Prop) (Φ : Post) : Post
  | .normal, f, l => K f l
  | e, f, l => Φ e f l
theorem T.seq {x y : Code} (h : T P B n x (thenP (fun f' l' => T P B n y Φ f' l') Φ) f l) : T P B n (.seq x y) Φ f l := ⟨fun Q w hf ho => by
  refine wp_seq (h.run _ w ⟨fun e f' w' l' k ho' => ?_, fun c a d v w' k => ?_⟩ ho)
  · cases e with
    | normal => exact (show T P B n y Φ f' l' from k).run Q w' hf ho'
    | _ => exact hf.go _ _ w' l' k ho'
  · exact hf.pk c a d v w' k⟩
theorem T.cut {x y : Code} (M : Fr → List Assn → Prop) (h1 : T P B n x (thenP (fun f' l' => ∃ l'', M f' l'' ∧ Sub l' l'') Φ) f l) (h2 : ∀ f l, M f l → T P B n y Φ f l) : T P B n (.seq x y) Φ f l := by
  refine T.seq ⟨fun Q w hf ho => h1.run Q w ⟨fun e f' w' l' k ho' => ?_, hf.pk⟩ ho⟩
  cases e with
  | normal =>
    obtain ⟨l'', hM, hs⟩ := k
    exact hf.go .normal f' w' l'' (h2 f' l'' hM) (ho'.map hs)
  | _ => exact hf.go _ _ w' l' k ho'
def blockP (id : Nat) (Φ : Post) : Post
  | .exit id', f, l => bif Nat.beq id' id then Φ .normal f l else Φ (.exit id') f l
  | e, f, l => Φ e f l
theorem T.block {id : Nat} {c : Code} (h : T P B n c (blockP id Φ) f l) : T P B n (.block id c) Φ f l := ⟨fun Q w hf ho => by
  refine wp_block (h.run _ w ⟨fun e f' w' l' k ho' => ?_, fun c a d v w' k => ?_⟩ ho)
  · cases e with
    | exit id' =>
      simp only [blockP, Exit.inBlock] at k ⊢
      by_cases hid : id' = id
      · subst hid; simp only [Nat.beq_refl, cond_true] at k; rw [if_pos rfl]; exact hf.go _ _ w' l' k ho'
      · have hb : Nat.beq id' id = false := by
          cases hb : Nat.beq id' id with
          | false => rfl
          | true => exact absurd (Nat.eq_of_beq_eq_true hb) hid
        rw [hb] at k; rw [if_neg hid]; exact hf.go _ _ w' l' k ho'
    | _ => exact hf.go _ _ w' l' k ho'
  · exact hf.pk c a d v w' k⟩
theorem T.cond {c : Operand} {x y : Code} {b : Bool} (hb : ev n f c = some (.bool b)) (h1 : b = true → T P B n x Φ f l) (h2 : b = false → T P B n y Φ f l) : T P B n (.cond c x y) Φ f l := ⟨fun Q w hf ho => by
  refine wp_cond (t := b) (by rw [eval_act, evu_eq hb]) ?_
  cases b with
  | true => exact (h1 rfl).run Q w hf ho
  | false => exact (h2 rfl).run Q w hf ho⟩
theorem T.condP {c : Operand} {x y : Code} {p : Prop} [i : Decidable p] (hb : ev n f c = some (.bool (decide p))) (h1 : p → T P B n x Φ f l) (h2 : ¬ p → T P B n y Φ f l) : T P B n (.cond c x y) Φ f l :=
  T.cond hb (fun h => h1 (of_decide_eq_true h)) (fun h => h2 (of_decide_eq_false h))
theorem T.condT {c : Operand} {x y : Code} (hb : ev n f c = some (.bool true)) (h : T P B n x Φ f l) : T P B n (.cond c x y) Φ f l := T.cond hb (fun _ => h) (fun h => by cases h)
theorem T.condF {c : Operand} {x y : Code} (hb : ev n f c = some (.bool false)) (h : T P B n y Φ f l) : T P B n (.cond c x y) Φ f l := T.cond hb (fun h => by cases h) (fun _ => h)
theorem T.condPT {c : Operand} {x y : Code} {p : Prop} [i : Decidable p] (hb : ev n f c = some (.bool (decide p))) (hp : p) (h1 : T P B n x Φ f l) : T P B n (.cond c x y) Φ f l := T.condP hb (fun _ => h1) (fun h => absurd hp h)
theorem T.condPF {c : Operand} {x y : Code} {p : Prop} [i : Decidable p] (hb : ev n f c = some (.bool (decide p))) (hp : ¬ p) (h1 : T P B n y Φ f l) : T P B n (.cond c x y) Φ f l := T.condP hb (fun h => absurd h hp) (fun _ => h1)
theorem T.condBT {c : Operand} {x y : Code} {b : Bool} (hb : ev n f c = some (.bool b)) (h : b = true) (h1 : T P B n x Φ f l) : T P B n (.cond c x y) Φ f l := T.cond hb (fun _ => h1) (fun e => by rw [e] at h; cases h)
theorem T.condBF {c : Operand} {x y : Code} {b : Bool} (hb : ev n f c = some (.bool b)) (h : b = false) (h1 : T P B n y Φ f l) : T P B n (.cond c x y) Φ f l := T.cond hb (fun e => by rw [e] at h; cases h) (fun _ => h1)
theorem T.region {id : Nat} {ol : List Oper} (h : LW P B n ol.toArray ol Φ f l) : T P B n (.region id ol.toArray false) Φ f l := ⟨fun Q w hf ho => wp_region_lit (h.run Q w hf ho)⟩
theorem T.imp {c : Code} {Φ' : Post} (hi : ∀ e f l, Φ' e f l → Φ e f l) (h : T P B n c Φ' f l) : T P B n c Φ f l := ⟨fun Q w hf ho => h.run Q w ⟨fun e f' w' l' k => hf.go e f' w' l' (hi _ _ _ k), hf.pk⟩ ho⟩
/-- A loop: I m at its head, m sinks in each round. -/
theorem T.loop {c : Code} (I : Nat → Fr → List Assn → Prop) (h0 : ∃ m l', I m f l' ∧ Sub l l') (round : ∀ m f l, I m f l → T P B n c (thenP (fun f' l' => ∃ m', m' < m ∧ ∃ l'', I m' f' l'' ∧ Sub l' l'') Φ) f l) : T P B n (.loop c) Φ f l := ⟨fun Q w hf ho => by
  obtain ⟨m, l0, hm, hs0⟩ := h0
  replace ho := ho.map hs0
  intro b k cs
  have key : ∀ m f w l, I m f l → Own B w l → ∃ e a' w', Q e a' w' ∧ Arrives P (lone (b.at (act n f) (.code c :: .inLoop c :: k)) cs w) b k cs e a' w' := by
    intro m
    induction m using Nat.strongRecOn with
    | _ m ih =>
      intro f w l hI ho
      obtain ⟨e, a₁, w₁, hq, harr⟩ := (round m f l hI).run (Exit.then (fun a' w' => ∃ m' f' l', m' < m ∧ I m' f' l' ∧ Own B w' l' ∧ a' = act n f') Q) w
        ⟨fun e f' w' l' k ho' => by
          cases e with
          | normal => obtain ⟨m', h1, l'', h2, h3⟩ := k; exact ⟨m', f', l'', h1, h2, ho'.map h3, rfl⟩
          | _ => exact hf.go _ _ w' l' k ho', fun c a d v w' k => hf.pk c a d v w' k⟩ ho b (.inLoop c :: k) cs
      cases e with
      | normal =>
        obtain ⟨m', f', l', h1, h2, h3, rfl⟩ := hq
        obtain ⟨e₂, a₂, w₂, hq₂, harr₂⟩ := ih m' h1 f' w₁ l' h2 h3
        exact ⟨e₂, a₂, w₂, hq₂, .of_steps (Steps.trans harr (.one step_inLoop)) harr₂⟩
      | exit id => exact ⟨_, a₁, w₁, hq, .pass (x := .inLoop c) rfl (fun _ _ => .inl (by simp)) harr⟩
      | goto l => exact ⟨_, a₁, w₁, hq, .pass (x := .inLoop c) rfl (fun _ _ => .inl (by simp)) harr⟩
      | ret => exact ⟨_, a₁, w₁, hq, .pass (x := .inLoop c) rfl (fun _ _ => .inl (by simp)) harr⟩
      | panic ch => exact ⟨_, a₁, w₁, hq, .pass (x := .inLoop c) rfl (fun _ _ => .inl (by simp)) harr⟩
      | outgrown => exact ⟨_, a₁, w₁, hq, .pass (x := .inLoop c) rfl (fun _ _ => .inl (by simp)) harr⟩
  obtain ⟨e, a', w', hq, harr⟩ := key m f w l0 hm ho
  exact ⟨e, a', w', hq, .of_steps (.one step_loop) harr⟩⟩

/-! a region that draws its order -/
structure RW (P : Program) (B : Base) (n : Nat) (ops : Array Oper) (m : Nat) (Φ : Post) (k : Nat) (S : List Assn) (listed : Array Bool) (f : Fr) (l : List Assn) : Prop where
  run : ∀ Q w, Fits B n Φ Q → Own B w l → wpT P .any ops Q m (wpList P ops Q (ops.toList.drop m)) k (fun u => Own B u S) listed (act n f) w
structure RO (P : Program) (B : Base) (n : Nat) (ops : Array Oper) (m : Nat) (Φ : Post) (k : Nat) (S : List Assn) (listed : Array Bool) (f : Fr) (l : List Assn) (i : Nat) : Prop where
  run : ∀ Q w, Fits B n Φ Q → Own B w l → wpOp P ops Q i (fun a' w' => ∃ S' : World → Prop, (∀ u, S' u → Own B u S) ∧ S' w' ∧ wpT P .any ops Q m (wpList P ops Q (ops.toList.drop m)) k S' (listed.setIfInBounds i true) a' w') (act n f) w

theorem T.draw {id : Nat} {ol : List Oper} (m : Nat) (S : List Assn) (hm : P.follows .mixedOrders = true) (hn : m ≤ ol.length) (hseq : Region.seqB .any ol.toArray (ol.drop m).length m (doneB m ol.length) = true)
    (h : RW P B n ol.toArray m Φ m S (Array.replicate ol.length false) f l) : T P B n (.region id ol.toArray true) Φ f l := ⟨fun Q w hf ho =>
  wp_region_T m (fun u => Own B u S) hm hn hseq (h.run Q _ hf ho.drew)⟩

theorem T.drawAll {id : Nat} {ol : List Oper} (m : Nat) (hm : P.follows .mixedOrders = true) (hn : m ≤ ol.length) (hseq : Region.seqB .any ol.toArray (ol.drop m).length m (doneB m ol.length) = true)
    (h : RW P B n ol.toArray m Φ m l (Array.replicate ol.length false) f l) : T P B n (.region id ol.toArray true) Φ f l := T.draw m l hm hn hseq h

/-- The list without block g. -/
class Wo (g : Nat) (l : List Assn) (S : outParam (List Assn)) : Prop where
  sub : Sub l S
instance (g : Nat) (C : List Value) (t : TypeId) (l : List Assn) : Wo g (blk g C t :: l) l := ⟨fun _ h => h.tail⟩
instance (g : Nat) (A : Assn) (l S : List Assn) [k : Wo g l S] : Wo g (A :: l) (A :: S) := ⟨fun _ h => Has.cons_imp k.sub h⟩
/-- The list's bare blocks, without block g (none: all of them). -/
class Bl (g : Option Nat) (l : List Assn) (S : outParam (List Assn)) : Prop where
  sub : Sub l S
instance (priority := high) (g : Nat) (C : List Value) (t : TypeId) (l S : List Assn) [k : Bl (some g) l S] : Bl (some g) (blk g C t :: l) S := ⟨fun _ h => k.sub _ h.tail⟩
instance (g : Option Nat) (g' : Nat) (C : List Value) (t : TypeId) (l S : List Assn) [k : Bl g l S] : Bl g (blk g' C t :: l) (blk g' C t :: S) := ⟨fun _ h => Has.cons_imp k.sub h⟩
instance (priority := low) (g : Option Nat) (A : Assn) (l S : List Assn) [k : Bl g l S] : Bl g (A :: l) S := ⟨fun _ h => k.sub _ h.tail⟩
instance (priority := 10) (g : Option Nat) (l : List Assn) : Bl g l [] := ⟨fun _ _ => trivial⟩
theorem T.drawBl {id : Nat} {ol : List Oper} (m : Nat) (g : Option Nat) {S : List Assn} [k : Bl g l S] (hm : P.follows .mixedOrders = true) (hn : m ≤ ol.length) (hseq : Region.seqB .any ol.toArray (ol.drop m).length m (doneB m ol.length) = true)
    (h : RW P B n ol.toArray m Φ m S (Array.replicate ol.length false) f l) : T P B n (.region id ol.toArray true) Φ f l := T.draw m S hm hn hseq h

variable {m k : Nat} {S : List Assn} {listed : Array Bool}
theorem RW.take {rest' : List Oper} {v : Value} (i : Nat) (hi : ops.toList.drop i = o :: rest') (hw : want n ops f o = true) (hb : takeB .any ops m i listed = true) (hs : Sub l S) (hq : Qt P B n S o f v)
    (h : RW P B n ops m Φ k S (listed.setIfInBounds i true) (putd f o.dst v) l) : RW P B n ops m Φ (k + 1) S listed f l := ⟨fun Q w hf ho => by
  refine wpT_take hi hb (fun c a w => hf.pk c a o.dst v w) (ho.map hs) (.inl ⟨by rw [want_eq, hw], fun w' ho' => by rw [eval_act']; exact hq.run w' ho'⟩) ?_
  rw [put_act]
  exact h.run Q w hf ho⟩
theorem RW.skip {rest' : List Oper} (i : Nat) (hi : ops.toList.drop i = o :: rest') (hw : want n ops f o = false) (hb : takeB .any ops m i listed = true) (hs : Sub l S)
    (h : RW P B n ops m Φ k S (listed.setIfInBounds i true) (putd f o.dst undef) l) : RW P B n ops m Φ (k + 1) S listed f l := ⟨fun Q w hf ho => by
  refine wpT_take hi hb (fun c a w => hf.pk c a o.dst undef w) (ho.map hs) (.inr ⟨by rw [want_eq, hw], rfl⟩) ?_
  rw [put_act]
  exact h.run Q w hf ho⟩
section named
variable {t : Tmp} {op : Op} {ty : TypeId} {pos : String} {af : Array Edge} {gd : Option (Nat × Bool)} {rest' : List Oper} {v : Value}
theorem RW.q (i : Nat) (hi : ops.toList.drop i = ⟨some t, op, ty, pos, af, gd⟩ :: rest') (hw : want n ops f ⟨some t, op, ty, pos, af, gd⟩ = true) (hb : takeB .any ops m i listed = true) (hs : Sub l S) (hq : Qt P B n S ⟨some t, op, ty, pos, af, gd⟩ f v)
    (h : RW P B n ops m Φ k S (listed.setIfInBounds i true) (upd f t v) l) : RW P B n ops m Φ (k + 1) S listed f l := RW.take i hi hw hb hs hq h
theorem RW.s (i : Nat) (hi : ops.toList.drop i = ⟨some t, op, ty, pos, af, gd⟩ :: rest') (hw : want n ops f ⟨some t, op, ty, pos, af, gd⟩ = false) (hb : takeB .any ops m i listed = true) (hs : Sub l S)
    (h : RW P B n ops m Φ k S (listed.setIfInBounds i true) (upd f t undef) l) : RW P B n ops m Φ (k + 1) S listed f l := RW.skip i hi hw hb hs h
end named
theorem RW.all (is : List Nat) (hb : (decide (Region.ready .any ops listed = is) && !is.isEmpty && is.all (fun i => decide (i < m))) = true) (h : ∀ i ∈ is, RO P B n ops m Φ k S listed f l i) : RW P B n ops m Φ (k + 1) S listed f l := ⟨fun Q w hf ho => by
  simp only [Bool.and_eq_true, decide_eq_true_eq, List.all_eq_true] at hb
  obtain ⟨⟨h1, h2⟩, h3⟩ := hb
  refine ⟨(fun e => by rw [h1] at e; rw [e] at h2; simp at h2), fun i hi => ?_⟩
  rw [h1] at hi
  exact ⟨h3 i hi, (h i hi).run Q w hf ho⟩⟩
theorem RW.one (i : Nat) (hb : (decide (Region.ready .any ops listed = [i]) && decide (i < m)) = true) (h : RO P B n ops m Φ k S listed f l i) : RW P B n ops m Φ (k + 1) S listed f l := by
  simp only [Bool.and_eq_true, decide_eq_true_eq] at hb
  refine RW.all [i] ?_ (List.forall_mem_cons.2 ⟨h, List.forall_mem_nil _⟩)
  simp [hb.1, hb.2]
/-- What is yielded and left serves the rest; what may be read from now on: all that is left. -/
theorem RO.eff {rest' : List Oper} {i : Nat} (hi : ops.toList.drop i = o :: rest') (hw : want n ops f o = true)
    (he : Ef P B n o f l fun v l' => Sub l' S ∧ RW P B n ops m Φ k l' (listed.setIfInBounds i true) (putd f o.dst v) l') : RO P B n ops m Φ k S listed f l i := ⟨fun Q w hf ho => by
  have hi' := getElem?_of_drop hi
  unfold wpOp
  simp only [hi']
  rw [want_eq, if_pos hw]
  refine .inl (he.run w _ Q ho fun v w' l' hK ho' => ?_)
  rw [put_act]
  exact ⟨fun u => Own B u l', fun u hu => hu.map hK.1, ho', hK.2.run Q w' hf ho'⟩⟩
theorem RO.effS {rest' : List Oper} {i : Nat} (hi : ops.toList.drop i = o :: rest') (hw : want n ops f o = true)
    (he : Ef P B n o f l fun v l' => Sub l' S ∧ RW P B n ops m Φ k S (listed.setIfInBounds i true) (putd f o.dst v) l') : RO P B n ops m Φ k S listed f l i := ⟨fun Q w hf ho => by
  have hi' := getElem?_of_drop hi
  unfold wpOp
  simp only [hi']
  rw [want_eq, if_pos hw]
  refine .inl (he.run w _ Q ho fun v w' l' hK ho' => ?_)
  rw [put_act]
  exact ⟨fun u => Own B u S, fun u hu => hu, ho'.map hK.1, hK.2.run Q w' hf ho'⟩⟩
section named
variable {t : Tmp} {op : Op} {ty : TypeId} {pos : String} {af : Array Edge} {gd : Option (Nat × Bool)} {rest' : List Oper} {i : Nat}
theorem RO.e (hi : ops.toList.drop i = ⟨some t, op, ty, pos, af, gd⟩ :: rest') (hw : want n ops f ⟨some t, op, ty, pos, af, gd⟩ = true)
    (he : Ef P B n ⟨some t, op, ty, pos, af, gd⟩ f l fun v l' => Sub l' S ∧ RW P B n ops m Φ k l' (listed.setIfInBounds i true) (upd f t v) l') : RO P B n ops m Φ k S listed f l i := RO.eff hi hw he
theorem RO.e0 (hi : ops.toList.drop i = ⟨none, op, ty, pos, af, gd⟩ :: rest') (hw : want n ops f ⟨none, op, ty, pos, af, gd⟩ = true)
    (he : Ef P B n ⟨none, op, ty, pos, af, gd⟩ f l fun _ l' => Sub l' S ∧ RW P B n ops m Φ k l' (listed.setIfInBounds i true) f l') : RO P B n ops m Φ k S listed f l i := RO.eff hi hw he
theorem RO.eS (hi : ops.toList.drop i = ⟨some t, op, ty, pos, af, gd⟩ :: rest') (hw : want n ops f ⟨some t, op, ty, pos, af, gd⟩ = true)
    (he : Ef P B n ⟨some t, op, ty, pos, af, gd⟩ f l fun v l' => Sub l' S ∧ RW P B n ops m Φ k S (listed.setIfInBounds i true) (upd f t v) l') : RO P B n ops m Φ k S listed f l i := RO.effS hi hw he
theorem RO.eS0 (hi : ops.toList.drop i = ⟨none, op, ty, pos, af, gd⟩ :: rest') (hw : want n ops f ⟨none, op, ty, pos, af, gd⟩ = true)
    (he : Ef P B n ⟨none, op, ty, pos, af, gd⟩ f l fun _ l' => Sub l' S ∧ RW P B n ops m Φ k S (listed.setIfInBounds i true) f l') : RO P B n ops m Φ k S listed f l i := RO.effS hi hw he
end named
theorem RW.done (hb : listed = doneB m ops.size) (h : LW P B n ops (ops.toList.drop m) Φ f l) : RW P B n ops m Φ 0 S listed f l := ⟨fun Q w hf ho => ⟨hb, h.run Q w hf ho⟩⟩
theorem RW.split {t : Nat} {b : Bool} (hb : f t = some (.bool b)) (h1 : b = true → RW P B n ops m Φ k S listed (upd f t (.bool true)) l) (h2 : b = false → RW P B n ops m Φ k S listed (upd f t (.bool false)) l) : RW P B n ops m Φ k S listed f l := by
  cases b with
  | true => have := h1 rfl; rwa [upd_self hb] at this
  | false => have := h2 rfl; rwa [upd_self hb] at this
theorem RW.gT {t : Nat} {b : Bool} (hb : f t = some (.bool b)) (h : b = true) (h1 : RW P B n ops m Φ k S listed (upd f t (.bool true)) l) : RW P B n ops m Φ k S listed f l := by subst h; rwa [upd_self hb] at h1
theorem RW.gF {t : Nat} {b : Bool} (hb : f t = some (.bool b)) (h : b = false) (h1 : RW P B n ops m Φ k S listed (upd f t (.bool false)) l) : RW P B n ops m Φ k S listed f l := by subst h; rwa [upd_self hb] at h1
theorem RW.own (h : ∀ w, Own B w l → RW P B n ops m Φ k S listed f l) : RW P B n ops m Φ k S listed f l := ⟨fun Q w hf ho => (h w ho).run Q w hf ho⟩
theorem RW.conv {l' : List Assn} (hc : ∀ w, Own B w l → Own B w l') (h : RW P B n ops m Φ k S listed f l') : RW P B n ops m Φ k S listed f l := ⟨fun Q w hf ho => h.run Q w hf (hc w ho)⟩

/-! functions -/
/-- A function's contract: from assertions to what it returns and assertions, whatever else there is. -/
structure Fn (P : Program) (B : Base) (g : FuncId) (args : Array Value) (pre : List Assn) (R : Value → List Assn → Prop) : Prop where
  run : ∀ w F, Own B w (pre ++ F) → Calls P g args w fun e w' => ∃ v l, e = .returned v ∧ R v l ∧ Own B w' (l ++ F)

theorem enter_eq (args : List Value) (n : Nat) (h : args.length ≤ n) : (⟨args.toArray ++ Array.replicate (n - args.toArray.size) undef, []⟩ : Act) = act n (U (fun _ => none) ((List.range args.length).zip args)) := by
  unfold act
  congr 1
  apply Array.ext_getElem?
  intro i
  rw [tm_getElem?]
  have key : ∀ (args : List Value) (k : Nat), U (fun _ => none) ((List.range' k args.length).zip args) i = if k ≤ i then args[i - k]? else none := by
    intro args
    induction args with
    | nil => intro k; simp [U]
    | cons a args ih =>
      intro k
      simp only [List.length_cons, List.range'_succ, List.zip_cons_cons, U]
      by_cases e : i = k
      · subst e; simp [upd_at]
      · rw [upd_ne _ _ e, ih (k + 1)]
        by_cases h2 : k ≤ i
        · rw [if_pos (by omega), if_pos h2, show i - k = (i - (k + 1)) + 1 by omega]; simp
        · rw [if_neg (by omega), if_neg h2]
  have hk := key args 0
  rw [List.range_eq_range', hk]
  simp only [Nat.zero_le, if_true, Nat.sub_zero, List.size_toArray]
  rw [Array.getElem?_append]
  by_cases h1 : i < args.length
  · simp [h1]; omega
  · simp [h1, Array.getElem?_replicate]
    by_cases h2 : i < n
    · rw [if_pos (by omega), if_pos h2]
    · rw [if_neg (by omega), if_neg h2]

/-- Entering a function of plain results. -/
theorem Fn.enter {g : FuncId} {fn : Func} {c : Code} {args : List Value} {pre : List Assn} {R : Value → List Assn → Prop} (hfn : P.funcs[g]? = some fn) (hc : fn.body = some c) (hn : fn.ntmps = n) (hl : args.length ≤ n)
    (h : ∀ F, T P B n c (fun e f l => (e = .ret ∨ e = .normal) ∧ ∃ v l', (∀ w, Own B w l → (results fn (act n f).tmps).run P w = .ok v w) ∧ R v l' ∧ Sub l (l' ++ F)) (U (fun _ => none) ((List.range args.length).zip args)) (pre ++ F)) : Fn P B g args.toArray pre R := ⟨fun w F ho => by
  refine calls_of_wp hfn hc ?_
  rw [hn, enter_eq args n hl]
  refine (h F).run _ w ⟨fun e f w' l hk ho' => ?_, fun c a d v w' k => (by cases d <;> exact k)⟩ ho
  obtain ⟨he, v, l', hr, hR, hs⟩ := hk
  rcases he with rfl | rfl
  · exact ⟨rfl, v, hr w' ho', v, l', rfl, hR, ho'.map hs⟩
  · exact ⟨rfl, v, hr w' ho', v, l', rfl, hR, ho'.map hs⟩⟩

def FnPost (P : Program) (B : Base) (n : Nat) (fn : Func) (R : Value → List Assn → Prop) (F : List Assn) : Post := fun e f l => (e = .ret ∨ e = .normal) ∧ ∃ v l', (∀ w, Own B w l → (results fn (act n f).tmps).run P w = .ok v w) ∧ R v l' ∧ Sub l (l' ++ F)
theorem Fn.mono {g : FuncId} {args : Array Value} {pre : List Assn} {R R' : Value → List Assn → Prop} (h : Fn P B g args pre R) (hr : ∀ v l, R v l → R' v l) : Fn P B g args pre R' := ⟨fun w F ho => (h.run w F ho).mono fun _ _ ⟨v, l, a, b, c⟩ => ⟨v, l, a, hr _ _ b, c⟩⟩
theorem Fn.enter0 {g : FuncId} {fn : Func} {c : Code} {pre : List Assn} {R : Value → List Assn → Prop} (n : Nat) (hfn : P.funcs[g]? = some fn) (hc : fn.body = some c) (hn : fn.ntmps = n) (hl : 0 ≤ n)
    (h : ∀ F, T P B n c (FnPost P B n fn R F) (fun _ => none) (pre ++ F)) : Fn P B g #[] pre R := Fn.enter (args := []) hfn hc hn hl h
theorem Fn.enter1 {g : FuncId} {fn : Func} {c : Code} {a0 : Value} {pre : List Assn} {R : Value → List Assn → Prop} (n : Nat) (hfn : P.funcs[g]? = some fn) (hc : fn.body = some c) (hn : fn.ntmps = n) (hl : 1 ≤ n)
    (h : ∀ F, T P B n c (FnPost P B n fn R F) (upd (fun _ => none) 0 a0) (pre ++ F)) : Fn P B g #[a0] pre R := Fn.enter (args := [a0]) hfn hc hn hl h
theorem Fn.enter2 {g : FuncId} {fn : Func} {c : Code} {a0 a1 : Value} {pre : List Assn} {R : Value → List Assn → Prop} (n : Nat) (hfn : P.funcs[g]? = some fn) (hc : fn.body = some c) (hn : fn.ntmps = n) (hl : 2 ≤ n)
    (h : ∀ F, T P B n c (FnPost P B n fn R F) (upd (upd (fun _ => none) 1 a1) 0 a0) (pre ++ F)) : Fn P B g #[a0, a1] pre R := Fn.enter (args := [a0, a1]) hfn hc hn hl h
theorem Fn.enter3 {g : FuncId} {fn : Func} {c : Code} {a0 a1 a2 : Value} {pre : List Assn} {R : Value → List Assn → Prop} (n : Nat) (hfn : P.funcs[g]? = some fn) (hc : fn.body = some c) (hn : fn.ntmps = n) (hl : 3 ≤ n)
    (h : ∀ F, T P B n c (FnPost P B n fn R F) (upd (upd (upd (fun _ => none) 2 a2) 1 a1) 0 a0) (pre ++ F)) : Fn P B g #[a0, a1, a2] pre R := Fn.enter (args := [a0, a1, a2]) hfn hc hn hl h
theorem getD_tm (n : Nat) (f : Fr) (t : Nat) : (act n f).tmps.getD t undef = evu n f (.tmp t) := by rw [← eval_act]; rfl
theorem map_run {P : Program} {α β : Type} (g : α → β) (x : Sem α) (w : World) : (Functor.map g x).run P w = (x.run P w).andThen fun a w' => .ok (g a) w' := by
  rw [← bind_pure_comp]; simp
def rvSem (tmps : Array Value) : ResultVar → Sem Value
  | .tmp t => pure (tmps.getD t undef)
  | .cell a t => do loadVar t (← asAddr (tmps.getD a undef))
/-- What a result's place holds. -/
structure RVal (P : Program) (B : Base) (n : Nat) (l : List Assn) (f : Fr) (r : ResultVar) (v : Value) : Prop where
  run : ∀ w, Own B w l → (rvSem (act n f).tmps r).run P w = .ok v w
def RVs (P : Program) (B : Base) (n : Nat) (l : List Assn) (f : Fr) : List ResultVar → List Value → Prop
  | [], [] => True
  | r :: rs, v :: vs => RVal P B n l f r v ∧ RVs P B n l f rs vs
  | _, _ => False
def outV : List Value → Value
  | [v] => v
  | vs => .tuple vs.toArray
theorem rvT {t : Nat} {v : Value} (h : ev n f (.tmp t) = some v) : RVal P B n l f (.tmp t) v := ⟨fun w _ => by rw [rvSem, getD_tm, evu_eq h]; rfl⟩
theorem res {fn : Func} {rs : List ResultVar} (vs : List Value) (h : fn.results = rs.toArray) (hv : RVs P B n l f rs vs) (w : World) (ho : Own B w l) : (results fn (act n f).tmps).run P w = .ok (outV vs) w := by
  have key : ∀ (rs : List ResultVar) (vs : List Value), RVs P B n l f rs vs → (rs.mapM (rvSem (act n f).tmps) : Sem (List Value)).run P w = .ok vs w := by
    intro rs
    induction rs with
    | nil => intro vs hv; cases vs with
      | nil => simp
      | cons v vs => exact hv.elim
    | cons r rs ih => intro vs hv; cases vs with
      | nil => exact hv.elim
      | cons v vs =>
        have h1 := hv.1.run w ho
        have h2 := ih vs hv.2
        rw [List.mapM_cons]
        simp only [Sem.run_bind, h1, h2, Result.andThen_ok, Sem.run_pure]
  have hm := key rs vs hv
  unfold results
  rw [h]
  show ((do let vs ← rs.toArray.mapM (rvSem (act n f).tmps); pure (if h : vs.size = 1 then vs[0] else .tuple vs)) : Sem Value).run P w = _
  rw [Array.mapM_eq_mapM_toList]
  simp only [Sem.run_bind, Sem.run_pure]
  rw [map_run, hm]
  simp only [Result.andThen_ok]
  congr 1
  match vs with
  | [] => rfl
  | [v] => rfl
  | _ :: _ :: _ => simp [outV]
end
end Go.Proofs.Ytopbkdpbljebgaa

/- Rules for single operations: quiet ones and ones that act. Conditions: of each rule its own. -/
set_option linter.unusedSimpArgs false
set_option linter.unusedVariables false
namespace Go.Proofs.Ytopbkdpbljebgaa
open Go.RowKit

/-! facts of types, as Bools and options that a kernel reckons -/
def szOf (P : Program) (t : TypeId) : Option Nat := (P.info? t).map (·.size)
def fieldB (P : Program) (s i off : Nat) : Bool := match P.underlying s with
  | some (.struct fs) => match fs[i]? with
    | some f => f.offset == off && (match P.info? f.type with | some j => j.size != 0 | none => false)
    | none => false
  | _ => false
def oneB (P : Program) (t : TypeId) : Bool := match P.underlying t with
  | some (.struct _) => false
  | some (.array _ _) => false
  | some _ => decide (szOf P t = some 1)
  | none => false
def aggB (P : Program) (t : TypeId) (k : Nat) : Bool := match P.underlying t with
  | some (.struct _) => decide (szOf P t = some k)
  | some (.array _ _) => decide (szOf P t = some k)
  | _ => false
def sliceB (P : Program) (t e sz : Nat) : Bool := (match P.underlying t with | some (.slice e') => e' == e | _ => false) && decide (szOf P e = some sz)
def isStr (P : Program) (t : TypeId) : Bool := match P.underlying t with | some .string => true | _ => false
def isInt (P : Program) (t : TypeId) (k : IntKind) : Bool := match P.underlying t with | some (.int k') => decide (k' = k) | _ => false
def zeroB (P : Program) (t : TypeId) (cs : List Value) : Prop := (P.info? t).bind (fun i => i.zero.map (·.cells)) = some cs.toArray

section
variable {P : Program} {B : Base} {n : Nat} {S l : List Assn} {f : Fr} {K : Value → List Assn → Prop}
variable {d : Option Tmp} {ty : TypeId} {pos : String} {af : Array Edge} {gd : Option (Nat × Bool)}

theorem info_of_size {t k : Nat} (h : szOf P t = some k) : ∃ i, P.info? t = some i ∧ i.size = k := by
  unfold szOf at h
  cases hi : P.info? t with
  | none => rw [hi] at h; cases h
  | some i => rw [hi] at h; exact ⟨i, rfl, by simpa using h⟩
theorem sliceB_spec {t e sz : Nat} (h : sliceB P t e sz = true) : P.underlying t = some (.slice e) ∧ szOf P e = some sz := by
  unfold sliceB at h
  simp only [Bool.and_eq_true, decide_eq_true_eq] at h
  refine ⟨?_, h.2⟩
  have h1 := h.1
  split at h1
  · rename_i e' he; simp at h1; subst h1; exact he
  · cases h1

theorem Qt.move {x : Operand} {v : Value} (hx : ev n f x = some v) : Qt P B n S ⟨d, .move x, ty, pos, af, gd⟩ f v := ⟨fun w _ => by
  simp [execOp, evu_eq hx]⟩
theorem Qt.assign {x : Operand} {v : Value} (hx : ev n f x = some v) : Qt P B n S ⟨d, .assign x, ty, pos, af, gd⟩ f v := ⟨fun w _ => by
  simp [execOp, evu_eq hx]⟩
theorem Qt.pick {c x y : Operand} {b : Bool} {v : Value} (hc : ev n f c = some (.bool b)) (hx : ev n f (bif b then x else y) = some v) : Qt P B n S ⟨d, .pick c x y, ty, pos, af, gd⟩ f v := ⟨fun w _ => by
  cases b <;> simp_all [execOp, evu_eq hc, evu, asBool]⟩
theorem Qt.extract {x : Operand} {i : Nat} {vs : Array Value} {v : Value} (hx : ev n f x = some (.tuple vs)) (hv : vs[i]? = some v) : Qt P B n S ⟨d, .extract x i, ty, pos, af, gd⟩ f v := ⟨fun w _ => by
  simp [execOp, evu_eq hx, Instr.extract, hv]⟩

theorem Qt.extr {x : Operand} {i : Nat} {vs : List Value} {v : Value} (hx : ev n f x = some (.tuple vs.toArray)) (hv : vs[i]? = some v) : Qt P B n S ⟨d, .extract x i, ty, pos, af, gd⟩ f v := Qt.extract (vs := vs.toArray) hx (by simpa using hv)
theorem Qt.fieldAddr {s i off g o : Nat} {x : Operand} (hf : fieldB P s i off = true) (hx : ev n f x = some (.pointer (some ⟨g, o, none⟩))) : Qt P B n S ⟨d, .fieldAddr s x i, ty, pos, af, gd⟩ f (.pointer (some ⟨g, o + off, none⟩)) := ⟨fun w _ => by
  unfold fieldB at hf
  split at hf
  · rename_i fs hu
    split at hf
    · rename_i fl hfl
      simp only [Bool.and_eq_true, beq_iff_eq] at hf
      obtain ⟨h1, h2⟩ := hf
      split at h2
      · rename_i j hj
        have hz : j.size ≠ 0 := by simpa using h2
        simp [execOp, Instr.fieldAt, run_underlying hu, hfl, evu_eq hx, Instr.sureAddr, fieldPlace, sizeOf, typeInfo, hj, hz, h1, Addr.add_mid]
      · cases h2
    · cases hf
  · cases hf⟩
theorem Qt.fieldAddr0 {s i g o : Nat} {x : Operand} (hf : fieldB P s i 0 = true) (hx : ev n f x = some (.pointer (some ⟨g, o, none⟩))) : Qt P B n S ⟨d, .fieldAddr s x i, ty, pos, af, gd⟩ f (.pointer (some ⟨g, o, none⟩)) := Qt.fieldAddr (off := 0) hf hx

/-- Block g's first cells are C, in each world that has S. -/
class Rd (B : Base) (g : Nat) (S : List Assn) (C : outParam (List Value)) : Prop where
  rd : ∀ w, Own B w S → ∃ X t fr, w.heap[g]? = some (.cells (C ++ X).toArray t fr)
class ROc (B : Base) (g : Nat) (C : outParam (List Value)) : Prop where
  rd : ∃ X t fr, B.ro g = some (.cells (C ++ X).toArray t fr)
instance (B : Base) (g : Nat) (S : List Assn) (C : List Value) [k : ROc B g C] : Rd B g S C := ⟨fun w H => by
  obtain ⟨X, t, fr, h⟩ := k.rd
  exact ⟨X, t, fr, H.ro.p _ _ h⟩⟩
instance (B : Base) (g : Nat) (S : List Assn) (C : List Value) [k : CellsAt g S C] : Rd B g S C := ⟨fun _ H => H.cells⟩
theorem Own.cell {w : World} {g o : Nat} {C : List Value} {v : Value} (H : Own B w l) [k : Rd B g l C] (hv : C[o]? = some v) : w.cell? ⟨g, o, none⟩ = some v := by
  obtain ⟨X, t, fr, h⟩ := k.rd w H
  rw [cell_of_row w g o _ _ _ h]
  have := (List.getElem?_eq_some_iff.1 hv).1
  simp [List.getElem?_append_left this, hv]
theorem Own.range {w : World} {g o : Nat} {C : List Value} {vs : List Value} (H : Own B w l) [k : Rd B g l C] (hv : ∀ j v, vs[j]? = some v → C[o + j]? = some v) : w.rangeAt g o vs := fun j v h => H.cell (hv j v h)

theorem Qt.load {t g o : Nat} {C : List Value} {x : Operand} {v : Value} (h1 : oneB P t = true) (hx : ev n f x = some (.pointer (some ⟨g, o, none⟩))) [k : Rd B g S C] (hv : C[o]? = some v) : Qt P B n S ⟨d, .load t x, ty, pos, af, gd⟩ f v := ⟨fun w ho => by
  have hc := ho.cell (g := g) (o := o) (C := C) hv
  unfold oneB at h1
  split at h1
  · cases h1
  · cases h1
  · rename_i dd n1 n2 hu
    have hagg : (isAgg t).run P w = .ok false w := by
      unfold isAgg
      simp only [Sem.run_bind, run_underlying hu, Result.andThen_ok]
      cases dd <;> first | exact (n1 _ rfl).elim | exact (n2 _ _ rfl).elim | rfl
    simp [execOp, evu_eq hx, Instr.loadAt, Instr.sureAddr, loadVar, hagg, Go.load, Sem.run, hc]
  · cases h1⟩
/-- The cells from o on are these. -/
def rdl (C : List Value) : Nat → List Value → Prop
  | _, [] => True
  | o, v :: vs => C[o]? = some v ∧ rdl C (o + 1) vs
theorem rdl_at {C : List Value} : ∀ {vs : List Value} {o : Nat}, rdl C o vs → ∀ j v, vs[j]? = some v → C[o + j]? = some v
  | [], _, _, j, v, h => by simp at h
  | u :: vs, o, ⟨h1, h2⟩, 0, v, h => by simp at h; subst h; exact h1
  | u :: vs, o, ⟨h1, h2⟩, j + 1, v, h => by
    have := rdl_at h2 j v (by simpa using h)
    rwa [Nat.add_assoc, Nat.add_comm 1 j] at this
theorem Qt.loadAgg {t g o : Nat} {C : List Value} {x : Operand} (vs : List Value) (h1 : aggB P t vs.length = true) (hx : ev n f x = some (.pointer (some ⟨g, o, none⟩))) [k : Rd B g S C] (hv : rdl C o vs) : Qt P B n S ⟨d, .load t x, ty, pos, af, gd⟩ f (.agg vs.toArray) := ⟨fun w ho => by
  have hr := ho.range (g := g) (o := o) (C := C) (rdl_at hv)
  unfold aggB at h1
  split at h1
  · rename_i fs hu
    have := run_loadAt_mid (P := P) w g o t vs _ hr hu rfl (by simpa [szOf] using h1)
    simp [execOp, evu_eq hx, this]
  · rename_i a b hu
    have := run_loadAt_mid (P := P) w g o t vs _ hr hu rfl (by simpa [szOf] using h1)
    simp [execOp, evu_eq hx, this]
  · cases h1⟩

theorem rvC {t g o a : Nat} {C : List Value} {v : Value} (h1 : oneB P t = true) (hx : ev n f (.tmp a) = some (.pointer (some ⟨g, o, none⟩))) [k : Rd B g l C] (hv : C[o]? = some v) : RVal P B n l f (.cell a t) v := ⟨fun w ho => by
  have := (Qt.load (B := B) (S := l) (d := none) (ty := 0) (pos := "") (af := #[]) (gd := none) h1 hx (k := k) hv).run w ho
  simp only [execOp, evu_eq hx, Instr.loadAt, Instr.sureAddr, Sem.run_bind, Sem.run_pure, Result.andThen_ok] at this
  simp only [rvSem, getD_tm, evu_eq hx, asAddr, Sem.run_bind, Sem.run_pure, Result.andThen_ok]
  cases h : (loadVar t ⟨g, o, none⟩).run P w with
  | ok a w' => rw [h] at this; simp at this; rw [this.1, this.2]
  | halt a w' => rw [h] at this; simp at this⟩
theorem rvA {t g o a : Nat} {C : List Value} (vs : List Value) (h1 : aggB P t vs.length = true) (hx : ev n f (.tmp a) = some (.pointer (some ⟨g, o, none⟩))) [k : Rd B g l C] (hv : rdl C o vs) : RVal P B n l f (.cell a t) (.agg vs.toArray) := ⟨fun w ho => by
  have := (Qt.loadAgg (B := B) (S := l) (d := none) (ty := 0) (pos := "") (af := #[]) (gd := none) vs h1 hx (k := k) hv).run w ho
  simp only [execOp, evu_eq hx, Instr.loadAt, Instr.sureAddr, Sem.run_bind, Sem.run_pure, Result.andThen_ok] at this
  simp only [rvSem, getD_tm, evu_eq hx, asAddr, Sem.run_bind, Sem.run_pure, Result.andThen_ok]
  cases h : (loadVar t ⟨g, o, none⟩).run P w with
  | ok a w' => rw [h] at this; simp at this; rw [this.1, this.2]
  | halt a w' => rw [h] at this; simp at this⟩

/-! numbers -/
theorem wr64 {x : Int} (h0 : -9223372036854775808 ≤ x) (h1 : x < 9223372036854775808) : IntKind.i64.wrap x = x := by
  simp only [IntKind.wrap, IntKind.bits, IntKind.signed]
  simp
  omega
theorem wru64 {x : Int} (h0 : 0 ≤ x) (h1 : x < 18446744073709551616) : IntKind.u64.wrap x = x := by
  simp only [IntKind.wrap, IntKind.bits, IntKind.signed]; simp; omega
theorem Qt.arith {op : BinOp} {t t2 : TypeId} {x y : Operand} {k : IntKind} {a b r : Int} (hop : (op = .add ∧ k.wrap (a + b) = r) ∨ (op = .sub ∧ k.wrap (a - b) = r) ∨ (op = .mul ∧ k.wrap (a * b) = r)) (hx : ev n f x = some (.int k a)) (hy : ev n f y = some (.int k b)) :
    Qt P B n S ⟨d, .binOp op t x y t2, ty, pos, af, gd⟩ f (.int k r) := ⟨fun w _ => by
  rcases hop with ⟨rfl, hr⟩ | ⟨rfl, hr⟩ | ⟨rfl, hr⟩ <;> simp [execOp, evu_eq hx, evu_eq hy, eqGuard, Go.binOp, Op.intArith, hr]⟩
theorem Qt.add {t t2 : TypeId} {x y : Operand} {k : IntKind} {a b r : Int} (hx : ev n f x = some (.int k a)) (hy : ev n f y = some (.int k b)) (hr : k.wrap (a + b) = r) : Qt P B n S ⟨d, .binOp .add t x y t2, ty, pos, af, gd⟩ f (.int k r) := Qt.arith (.inl ⟨rfl, hr⟩) hx hy
theorem Qt.sub {t t2 : TypeId} {x y : Operand} {k : IntKind} {a b r : Int} (hx : ev n f x = some (.int k a)) (hy : ev n f y = some (.int k b)) (hr : k.wrap (a - b) = r) : Qt P B n S ⟨d, .binOp .sub t x y t2, ty, pos, af, gd⟩ f (.int k r) := Qt.arith (.inr (.inl ⟨rfl, hr⟩)) hx hy
theorem Qt.mul {t t2 : TypeId} {x y : Operand} {k : IntKind} {a b r : Int} (hx : ev n f x = some (.int k a)) (hy : ev n f y = some (.int k b)) (hr : k.wrap (a * b) = r) : Qt P B n S ⟨d, .binOp .mul t x y t2, ty, pos, af, gd⟩ f (.int k r) := Qt.arith (.inr (.inr ⟨rfl, hr⟩)) hx hy
theorem Qt.quo {t t2 : TypeId} {x y : Operand} {k : IntKind} {a b r : Int} (hx : ev n f x = some (.int k a)) (hy : ev n f y = some (.int k b)) (h0 : b ≠ 0) (hr : k.wrap (a.tdiv b) = r) : Qt P B n S ⟨d, .binOp .quo t x y t2, ty, pos, af, gd⟩ f (.int k r) := ⟨fun w _ => by
  simp [execOp, evu_eq hx, evu_eq hy, eqGuard, Go.binOp, Op.intDiv, h0, hr]⟩
theorem Qt.rem {t t2 : TypeId} {x y : Operand} {k : IntKind} {a b r : Int} (hx : ev n f x = some (.int k a)) (hy : ev n f y = some (.int k b)) (h0 : b ≠ 0) (hr : a.tmod b = r) : Qt P B n S ⟨d, .binOp .rem t x y t2, ty, pos, af, gd⟩ f (.int k r) := ⟨fun w _ => by
  simp [execOp, evu_eq hx, evu_eq hy, eqGuard, Go.binOp, Op.intDiv, h0, hr]⟩
theorem Qt.lss {t t2 : TypeId} {x y : Operand} {k : IntKind} {a b : Int} (hx : ev n f x = some (.int k a)) (hy : ev n f y = some (.int k b)) : Qt P B n S ⟨d, .binOp .lss t x y t2, ty, pos, af, gd⟩ f (.bool (decide (a < b))) := ⟨fun w _ => by
  simp [execOp, evu_eq hx, evu_eq hy, eqGuard, Go.binOp, Op.intCmp]⟩
theorem Qt.leq {t t2 : TypeId} {x y : Operand} {k : IntKind} {a b : Int} (hx : ev n f x = some (.int k a)) (hy : ev n f y = some (.int k b)) : Qt P B n S ⟨d, .binOp .leq t x y t2, ty, pos, af, gd⟩ f (.bool (decide (a ≤ b))) := ⟨fun w _ => by
  simp [execOp, evu_eq hx, evu_eq hy, eqGuard, Go.binOp, Op.intCmp]⟩
theorem Qt.gtr {t t2 : TypeId} {x y : Operand} {k : IntKind} {a b : Int} (hx : ev n f x = some (.int k a)) (hy : ev n f y = some (.int k b)) : Qt P B n S ⟨d, .binOp .gtr t x y t2, ty, pos, af, gd⟩ f (.bool (decide (b < a))) := ⟨fun w _ => by
  simp [execOp, evu_eq hx, evu_eq hy, eqGuard, Go.binOp, Op.intCmp]⟩
theorem Qt.geq {t t2 : TypeId} {x y : Operand} {k : IntKind} {a b : Int} (hx : ev n f x = some (.int k a)) (hy : ev n f y = some (.int k b)) : Qt P B n S ⟨d, .binOp .geq t x y t2, ty, pos, af, gd⟩ f (.bool (decide (b ≤ a))) := ⟨fun w _ => by
  simp [execOp, evu_eq hx, evu_eq hy, eqGuard, Go.binOp, Op.intCmp]⟩
theorem Qt.eql {t t2 : TypeId} {x y : Operand} {k : IntKind} {a b : Int} (hx : ev n f x = some (.int k a)) (hy : ev n f y = some (.int k b)) : Qt P B n S ⟨d, .binOp .eql t x y t2, ty, pos, af, gd⟩ f (.bool (decide (a = b))) := ⟨fun w _ => by
  have : (a == b) = decide (a = b) := rfl
  simp [execOp, evu_eq hx, evu_eq hy, eqGuard, Go.binOp, Op.intCmp, this]⟩
theorem Qt.neq {t t2 : TypeId} {x y : Operand} {k : IntKind} {a b : Int} (hx : ev n f x = some (.int k a)) (hy : ev n f y = some (.int k b)) : Qt P B n S ⟨d, .binOp .neq t x y t2, ty, pos, af, gd⟩ f (.bool (decide (a ≠ b))) := ⟨fun w _ => by
  have : (a != b) = decide (a ≠ b) := by by_cases h : a = b <;> simp [h]
  simp [execOp, evu_eq hx, evu_eq hy, eqGuard, Go.binOp, Op.intCmp, this]⟩
theorem Qt.eqlS {t t2 : TypeId} {x y : Operand} {a b : List UInt8} (hx : ev n f x = some (.string (strOf a))) (hy : ev n f y = some (.string (strOf b))) : Qt P B n S ⟨d, .binOp .eql t x y t2, ty, pos, af, gd⟩ f (.bool (decide (a = b))) := ⟨fun w _ => by
  have : ((strOf a).toList == (strOf b).toList) = decide (a = b) := by
    have e : ∀ l : List UInt8, (strOf l).toList = l := fun l => ByteArray.toList_mk l
    rw [e, e]
    by_cases h : a = b <;> simp [h]
  simp [execOp, evu_eq hx, evu_eq hy, eqGuard, Go.binOp, Op.stringOp, this]⟩
theorem Qt.notP {t : TypeId} {x : Operand} {p : Prop} [i : Decidable p] (hx : ev n f x = some (.bool (decide p))) : Qt P B n S ⟨d, .unOp .not t x, ty, pos, af, gd⟩ f (.bool (decide (¬ p))) := ⟨fun w _ => by
  simp [execOp, evu_eq hx, Op.unary]⟩
theorem Qt.notB {t : TypeId} {x : Operand} {b : Bool} (hx : ev n f x = some (.bool b)) : Qt P B n S ⟨d, .unOp .not t x, ty, pos, af, gd⟩ f (.bool (!b)) := ⟨fun w _ => by
  simp [execOp, evu_eq hx, Op.unary]⟩
theorem Qt.convI {s t : TypeId} {x : Operand} {k k' : IntKind} {a r : Int} (hs : (P.underlying s).isSome = true) (ht : isInt P t k' = true) (hx : ev n f x = some (.int k a)) (hr : k'.wrap a = r) : Qt P B n S ⟨d, .convert s t x, ty, pos, af, gd⟩ f (.int k' r) := ⟨fun w _ => by
  unfold isInt at ht
  split at ht
  · rename_i k2 hu
    simp at ht; subst ht
    obtain ⟨ds, hds⟩ := Option.isSome_iff_exists.1 hs
    have : (convert s t (.int k a)).run P w = .ok (.int k2 r) w := by
      unfold convert
      simp [run_underlying hds, run_underlying hu, Conv.intToInt, hr]
    simp [execOp, evu_eq hx, this]
  · cases ht⟩
theorem Qt.len {t : TypeId} {e sz : Nat} {x : Operand} {p : Option Addr} {len cap : Nat} {ty2 : TypeId} (ht : sliceB P t e sz = true) (hx : ev n f x = some (.slice p len cap)) : Qt P B n S ⟨d, .call ⟨.builtin .len, #[x], #[t]⟩, ty2, pos, af, gd⟩ f (.int .i64 len) := ⟨fun w _ => by
  obtain ⟨h1, _⟩ := sliceB_spec ht
  simp [execOp, resolve, invoke, builtin, Builtin.len_, evu_eq hx, run_underlying h1, goInt]⟩
theorem Qt.lenS {t : TypeId} {x : Operand} {s : ByteArray} (ht : isStr P t = true) (hx : ev n f x = some (.string s)) : Qt P B n S ⟨d, .call ⟨.builtin .len, #[x], #[t]⟩, ty, pos, af, gd⟩ f (.int .i64 s.size) := ⟨fun w _ => by
  unfold isStr at ht
  split at ht
  · rename_i hu; simp [execOp, resolve, invoke, builtin, Builtin.len_, evu_eq hx, run_underlying hu, goInt]
  · cases ht⟩
theorem Qt.index {t e sz : Nat} {x y : Operand} {g o len cap : Nat} {k : IntKind} {i : Int} (j : Nat) (ht : sliceB P t e sz = true) (hx : ev n f x = some (.slice (some ⟨g, o, none⟩) len cap)) (hy : ev n f y = some (.int k i)) (hj : i = (j : Int)) (hl : j < len) :
    Qt P B n S ⟨d, .indexAddr t x y, ty, pos, af, gd⟩ f (.pointer (some ⟨g, o + j * sz, none⟩)) := ⟨fun w _ => by
  obtain ⟨h1, h2⟩ := sliceB_spec ht
  obtain ⟨i', hi, hs⟩ := info_of_size h2
  subst hj
  simp [execOp, Instr.indexAt, evu_eq hx, evu_eq hy, asIntOf, run_underlying h1, sizeOf, typeInfo, hi, hs, hl, Addr.add_mid]⟩

/-! what acts -/
theorem Ef.call {g : FuncId} {fn : Func} {args : Array Operand} {ats : Array TypeId} {vs : List Value} {pre F : List Assn} {R : Value → List Assn → Prop} (hc : Fn P B g vs.toArray pre R) (hf : P.funcs[g]? = some fn) (hn : (fn.name == "runtime.NumGoroutine") = false) (hb : fn.body.isNone = false)
    (ha : args.toList.map (ev n f) = vs.map some) [k : TakeL pre l F] (h : ∀ v l', R v l' → K v (l' ++ F)) : Ef P B n ⟨d, .call ⟨.value (.func g), args, ats⟩, ty, pos, af, gd⟩ f l K := ⟨fun w next Q ho hk => by
  have hav : args.map (evu n f) = vs.toArray := by
    have : args.toList.map (evu n f) = vs := by
      have e := congrArg (List.map (fun o : Option Value => o.getD undef)) ha
      have e2 : (fun x => evu n f x) = evu n f := rfl
      simp only [List.map_map, Function.comp_def, Option.getD_some, List.map_id'] at e
      exact e
    rw [← Array.toList_inj, Array.toList_map]
    simpa using this
  have h0 := hc.run w F ho.takeL
  unfold Oper.wp execOp
  rw [eval_act']
  have he : ((do let c ← resolve (evu n f) ⟨.value (.func g), args, ats⟩ ty; invoke c.target c.args) : Sem Next).run P w = .ok (.enter g vs.toArray) w := by
    simp only [resolve, hav]
    have hg : evu n f (.func g) = .func (.func g) #[] #[] := rfl
    have hn' : ¬ fn.name = "runtime.NumGoroutine" := by simpa using hn
    have hb' : ¬ fn.body = none := fun e => by rw [e] at hb; cases hb
    simp [hg, Deferred.ofValue, invoke, callFunc, hf, hn', hb']
  rw [he]
  show Calls P g vs.toArray w _
  refine Calls.mono h0 ?_
  rintro e w' ⟨v, l', rfl, hR, ho'⟩
  exact hk v w' _ (h v l' hR) ho'⟩
end
end Go.Proofs.Ytopbkdpbljebgaa

/- Rules for operations that write or make memory: store, box, alloc, slices' literals, append, strings of bytes, structs. Conditions: of each rule its own. -/
set_option linter.unusedSimpArgs false
set_option linter.unusedVariables false
namespace Go.Proofs.Ytopbkdpbljebgaa
open Go.RowKit
section
variable {P : Program} {B : Base} {n : Nat} {S l r : List Assn} {f : Fr} {K : Value → List Assn → Prop}
variable {d : Option Tmp} {ty : TypeId} {pos : String} {af : Array Edge} {gd : Option (Nat × Bool)}

theorem run_storeAt_gen {w : World} {g o t' t : Nat} {cur : Array Value} {v : Value} {vs : List Value} (hg : w.heap[g]? = some (.cells cur t' (0, 0))) (hs : szOf P t = some vs.length) (hc : v.cells = vs.toArray) (h1 : ∀ u ∈ vs, u.oneCell' = true) (hfit : o + vs.length ≤ cur.size) :
    (Instr.storeAt t (.pointer (some ⟨g, o, none⟩)) v).run P w = .ok () (w.setRow g (splice cur.toList o vs).toArray) := by
  obtain ⟨i, hi, his⟩ := info_of_size hs
  have hst := run_storeCells_at P g o t' vs 0 cur w hg (by simpa using hfit) h1
  simp only [Nat.add_zero] at hst
  simp [Instr.storeAt, Instr.sureAddr, storeVar, sizeOf, typeInfo, hi, his, hc]
  rw [hst]
  congr 2
  simp [splice, List.append_assoc]

theorem splice_append {α : Type} (C X : List α) (o : Nat) (vs : List α) (h : o + vs.length ≤ C.length) : splice (C ++ X) o vs = splice C o vs ++ X := by
  unfold splice
  rw [List.take_append_of_le_length (by omega), List.drop_append_of_le_length (by omega)]
  simp [List.append_assoc]
theorem splice_one {α : Type} (C : List α) (o : Nat) (v : α) (h : o < C.length) : splice C o [v] = C.set o v := by
  unfold splice
  rw [List.set_eq_take_append_cons_drop, if_pos h]
  simp

theorem Ef.store {t g o : Nat} {x y : Operand} {v : Value} {C : List Value} (vs : List Value) (hs : szOf P t = some vs.length) (hx : ev n f x = some (.pointer (some ⟨g, o, none⟩))) (hy : ev n f y = some v) (hc : v.cells = vs.toArray) (h1' : vs.all (·.oneCell') = true)
    [k : StoreAt g l C (splice C o vs) r] (hfit : o + vs.length ≤ C.length) (h : K undef r) : Ef P B n ⟨d, .store t x y, ty, pos, af, gd⟩ f l K := ⟨fun w next Q ho hk => by
  have h1 : ∀ u ∈ vs, u.oneCell' = true := by simpa using h1'
  obtain ⟨X, t', hg, ho'⟩ := ho.store (g := g) (C := C) (D := splice C o vs) (length_splice _ _ _ hfit)
  have hr := run_storeAt_gen (P := P) (t := t) (o := o) (v := v) hg hs hc h1 (by simp; omega)
  rw [splice_append C X o vs hfit] at hr
  unfold Oper.wp execOp
  simp only [eval_act', evu_eq hx, evu_eq hy, Sem.run_bind, hr, Result.andThen_ok]
  exact hk undef _ _ h ho'⟩
theorem Ef.store1 {t g o : Nat} {x y : Operand} {v : Value} {C : List Value} (hs : szOf P t = some 1) (hx : ev n f x = some (.pointer (some ⟨g, o, none⟩))) (hy : ev n f y = some v) (h1 : v.oneCell' = true)
    [k : StoreAt g l C (C.set o v) r] (hfit : o < C.length) (h : K undef r) : Ef P B n ⟨d, .store t x y, ty, pos, af, gd⟩ f l K := by
  have e := splice_one C o v hfit
  rw [← e] at k
  refine Ef.store (k := k) [v] hs hx hy ?_ (by simpa using h1) (by simp only [List.length_singleton]; omega) h
  cases v <;> first | rfl | cases h1

theorem Ef.box {t : TypeId} {x : Operand} {v : Value} (vs : List Value) (hx : ev n f x = some v) (hc : v.cells = vs.toArray) (h : ∀ g, K (.pointer (some ⟨g, 0, none⟩)) (blk g vs t :: l)) : Ef P B n ⟨d, .box t x, ty, pos, af, gd⟩ f l K := ⟨fun w next Q ho hk => by
  have hr : (Instr.box t v).run P w = .ok (.pointer (some ⟨w.heap.size, 0, none⟩)) (w.alloc (.cells vs.toArray t)) := by
    simp [Instr.box, newVar, newRow, hc]
  unfold Oper.wp execOp
  simp only [eval_act', evu_eq hx, Sem.run_bind, hr, Sem.run_pure, Result.andThen_ok]
  exact hk _ _ _ (h _) (ho.alloc vs t)⟩
theorem run_alloc_zz {P : Program} (w : World) (t : TypeId) (i : TypeInfo) (z : Value) (hi : P.info? t = some i) (hz : i.zero = some z) :
    (Instr.alloc t true (.tuple #[])).run P w = .ok (.pointer (some ⟨w.heap.size, 0, none⟩)) (w.alloc (.cells z.cells t)) := by
  simp [Instr.alloc, zeroValue, typeInfo, hi, hz, newVar, newRow]
theorem Ef.alloc {t : TypeId} (vs : List Value) (hz : zeroB P t vs) (h : ∀ g, K (.pointer (some ⟨g, 0, none⟩)) (blk g vs t :: l)) : Ef P B n ⟨d, .alloc t, ty, pos, af, gd⟩ f l K := ⟨fun w next Q ho hk => by
  unfold zeroB at hz
  cases hi : P.info? t with
  | none => rw [hi] at hz; cases hz
  | some i =>
    rw [hi] at hz
    simp only [Option.bind_some] at hz
    cases hzz : i.zero with
    | none => rw [hzz] at hz; cases hz
    | some z =>
      rw [hzz] at hz
      simp only [Option.map_some, Option.some.injEq] at hz
      have hr := run_alloc_zz (P := P) w t i z hi hzz
      rw [hz] at hr
      unfold Oper.wp execOp
      simp only [Sem.run_bind, hr, Sem.run_pure, Result.andThen_ok]
      exact hk _ _ _ (h _) (ho.alloc vs t)⟩
/-! rows -/
theorem Own.row_owns {w : World} {v : Value} {e : TypeId} {sz m : Nat} {xs : List Value} (H : Own B w (row v e sz m xs :: l)) : w.ownsRow 0 e sz v m xs := by
  obtain ⟨h, _, hl, h1, _, _, a, _, ⟨e1, e2⟩, _⟩ := H.has
  refine ⟨e1, e2.imp id ?_⟩
  rintro ⟨g, cap, cur, a1, a2, a3, a4, a5, a6⟩
  exact ⟨g, cap, cur, a1, Nat.zero_le _, hl.p _ _ (a.p _ _ a2), a3, a4, a5, a6⟩
theorem Own.row_new {w w' : World} {v : Value} {e : TypeId} {sz m : Nat} {xs : List Value} (H : Own B w l) (hk : Kept [] w w') (ho : w'.ownsRow 0 e sz v m xs) (hn : ∀ g, v.ownBlock = some g → w.heap.size ≤ g) : Own B w' (row v e sz m xs :: l) :=
  Own.fresh H hk fun h e' => ⟨ho.1, ho.2.imp id fun ⟨g, cap, cur, a1, _, a2, a3⟩ => ⟨g, cap, cur, a1, by rw [e' g (hn g (by rw [a1]; rfl))]; exact a2, a3⟩⟩
theorem Own.row_kept {w w' : World} {v v' : Value} {e : TypeId} {sz m m' : Nat} {xs xs' : List Value} (H : Own B w (row v e sz m xs :: l)) (hk : Kept v.ownBlock.toList w w') (ho : w'.ownsRow 0 e sz v' m' xs') (hn : ∀ g, v'.ownBlock = some g → v.ownBlock = some g ∨ g = w.heap.size) : Own B w' (row v' e sz m' xs' :: l) := by
  refine Own.kept H hk ?_ ?_
  · rintro h ⟨_, e2⟩ g hg
    rcases e2 with ⟨rfl, _⟩ | ⟨g', cap, cur, rfl, a2, _⟩
    · simp [Value.ownBlock] at hg
    · simp [Value.ownBlock] at hg; subst hg; exact ⟨_, a2⟩
  · intro h1 h _ _ e1 _
    refine ⟨ho.1, ho.2.imp id fun ⟨g, cap, cur, a1, _, a2, a3⟩ => ⟨g, cap, cur, a1, ?_, a3⟩⟩
    have := hn g (by rw [a1]; rfl)
    rw [e1 g (by rcases this with h | h; exact .inl (by simp [h]); exact .inr (by omega))]
    exact a2
/-- The nil slice is a row. -/
theorem Own.row_nil {w : World} (H : Own B w l) (e : TypeId) (sz : Nat) : Own B w (row (.slice none 0 0) e sz 0 [] :: l) := H.map fun _ k => ⟨fun _ => none, _, ⟨fun _ => .inl rfl⟩, ⟨fun _ _ h => (by cases h)⟩, Piece.le_refl _, ⟨by simp, .inl ⟨rfl, rfl⟩⟩, k⟩
theorem Own.row_slice {w : World} {v : Value} {e : TypeId} {sz m : Nat} {xs : List Value} (H : Own B w (row v e sz m xs :: l)) : ∃ p cap, v = .slice p m cap ∧ (0 < m → ∃ g, p = some ⟨g, 0, none⟩) ∧ xs.length = m * sz := by
  have h := H.row_owns
  have hl := h.1
  rcases h.2 with ⟨rfl, rfl⟩ | ⟨g, cap, cur, rfl, _⟩
  · exact ⟨none, 0, rfl, by omega, hl⟩
  · exact ⟨some ⟨g, 0, none⟩, cap, rfl, fun _ => ⟨g, rfl⟩, hl⟩

/-- 'T{}' of a slice type. -/
theorem Ef.empty {t e sz bytes : Nat} (E : ElemOk P t e sz bytes) (h : ∀ g, K (.slice (some ⟨g, 0, none⟩) 0 0) (row (.slice (some ⟨g, 0, none⟩) 0 0) e sz 0 [] :: l)) : Ef P B n ⟨d, .buildSlice t 0 #[], ty, pos, af, gd⟩ f l K := ⟨fun w next Q ho hk => by
  refine wp_empty_k t rfl E fun g W e1 e2 hg hl => ?_
  exact hk _ _ _ (h g) (ho.row_new e2 e1 (fun g' hg' => by simp [Value.ownBlock] at hg'; omega))⟩

/-- A source to append: what is read. -/
structure SrcOf (P : Program) (B : Base) (l : List Assn) (sz tx : Nat) (x : Value) (m : Nat) (news : List Value) : Prop where
  src : ∀ w, Own B w l → Src P sz tx x m news w

theorem Ef.append {t tx e sz bytes : Nat} {x y : Operand} {v u : Value} {k m : Nat} {xs news : List Value} {ty2 : TypeId} (E : ElemOk P t e sz bytes) (hx : ev n f x = some v) (hy : ev n f y = some u)
    [hT : TakeR v l e sz k xs r] (hS : SrcOf P B l sz tx u m news) (h63 : k + m ≤ maxLen) (hbytes : (k + m) * bytes ≤ 140737488355328)
    (h : ∀ p c, (0 < k + m → ∃ g, p = some ⟨g, 0, none⟩) → K (.slice p (k + m) c) (row (.slice p (k + m) c) e sz (k + m) (xs ++ news) :: r)) : Ef P B n ⟨d, .call ⟨.builtin .append, #[x, y], #[t, tx]⟩, ty2, pos, af, gd⟩ f l K := ⟨fun w next Q ho hk => by
  have ho2 := ho.takeR (k := hT)
  refine wp_append_k x y t tx rfl E (by rw [eval_act, evu_eq hx]) ho2.row_owns (by rw [eval_act, evu_eq hy]) (hS.src w ho) h63 hbytes (Nat.zero_le _) fun v' w' hp => ?_
  have ho3 := ho2.row_kept hp.kept hp.own hp.blk
  obtain ⟨p, c, rfl, hpg, _⟩ := ho3.row_slice
  exact hk _ w' _ (h p c hpg) ho3⟩
theorem Ef.conv {o : Oper} {l' : List Assn} (hc : ∀ w, Own B w l → Own B w l') (h : Ef P B n o f l' K) : Ef P B n o f l K := ⟨fun w next Q ho hk => h.run w next Q (hc w ho) hk⟩
theorem Ef.own {o : Oper} (h : ∀ w, Own B w l → Ef P B n o f l K) : Ef P B n o f l K := ⟨fun w next Q ho hk => (h w ho).run w next Q ho hk⟩
def sliceZ (P : Program) (t sz : Nat) : Bool := match P.underlying t with
  | some (.slice e) => decide (szOf P e = some sz)
  | _ => false
theorem sliceZ_spec {t sz : Nat} (h : sliceZ P t sz = true) : ∃ e, P.underlying t = some (.slice e) := by
  unfold sliceZ at h
  split at h
  · exact ⟨_, by assumption⟩
  · cases h
/-- Sources. -/
theorem SrcOf.row {tx e sz m : Nat} {u : Value} {news : List Value} {r : List Assn} [k : TakeR u l e sz m news r] (hk : sliceZ P tx sz = true) (h1 : ∀ x ∈ news, x.oneCell' = true) : SrcOf P B l sz tx u m news := ⟨fun w ho => by
  obtain ⟨e', he⟩ := sliceZ_spec hk
  exact Src.ofOwns he (ho.takeR (k := k)).row_owns h1⟩
theorem SrcOf.cells {tx sz g o m cap : Nat} {C news : List Value} (hk : sliceZ P tx sz = true) [k : Rd B g l C] (hv : ∀ j v, news[j]? = some v → C[o + j]? = some v) (hl : news.length = m * sz) (h1 : ∀ x ∈ news, x.oneCell' = true) : SrcOf P B l sz tx (.slice (some ⟨g, o, none⟩) m cap) m news := ⟨fun w ho => by
  obtain ⟨e', he⟩ := sliceZ_spec hk
  exact Src.ofSlice w he ⟨g, o, none⟩ m cap news hl (fun j u hj => by rw [Addr.add_mid]; exact ho.cell (hv j u hj)) h1⟩
theorem SrcOf.nil {tx sz cap : Nat} (hk : sliceZ P tx sz = true) : SrcOf P B l sz tx (.slice none 0 cap) 0 [] := ⟨fun w _ => by
  obtain ⟨e', he⟩ := sliceZ_spec hk
  exact Src.ofNil w he cap⟩

/-- 'T{x}' of a slice type: one element. -/
theorem Ef.one {t e sz : Nat} {x : Operand} {v : Value} (vs : List Value) (hk : sliceB P t e sz = true) (hz : ∃ z, (P.info? e).bind (·.zero) = some z ∧ z.cells.size = sz) (hx : ev n f x = some v) (hc : v.cells = vs.toArray) (hl : vs.length = sz) (hp : 0 < sz) (h24 : sz ≤ 16777216)
    (h : ∀ g, K (.slice (some ⟨g, 0, none⟩) 1 1) (blk g vs e :: l)) : Ef P B n ⟨d, .buildSlice t 1 #[(0, x)], ty, pos, af, gd⟩ f l K := ⟨fun w next Q ho hk' => by
  obtain ⟨h1, h2⟩ := sliceB_spec hk
  obtain ⟨i, hi, his⟩ := info_of_size h2
  obtain ⟨z, hz1, hz2⟩ := hz
  rw [hi] at hz1
  have hvs : v.cells.size = sz := by rw [hc]; simpa using hl
  have hr := run_buildSlice_one (P := P) w t e i z v h1 hi hz1 (by rw [his, hvs]) (by rw [hvs]; exact hz2) (by rw [hvs]; omega) (by rw [hvs]; omega)
  unfold Oper.wp execOp
  simp only [eval_act', List.map_toArray, List.map_cons, List.map_nil, evu_eq hx, Sem.run_bind, hr, Sem.run_pure, Result.andThen_ok]
  rw [hc]
  exact hk' _ _ _ (h _) (ho.alloc vs e)⟩

/-! structs -/
def offs (P : Program) (t : TypeId) : Option (List (Nat × Nat)) := match P.underlying t with
  | some (.struct fs) => fs.toList.mapM fun f => (szOf P f.type).map (Prod.mk f.offset)
  | _ => none
def fillP (os : List (Nat × Nat)) (cs : List Value) : List (Nat × Value) → Option (List Value)
  | [] => some cs
  | p :: ps => match os[p.1]? with
    | none => none
    | some (off, size) => if p.2.cells.size ≠ size || off + p.2.cells.size > cs.length then none else fillP os (splice cs off p.2.cells.toList) ps
theorem fill_eq (os : List (Nat × Nat)) (place : Nat → Option (Nat × Nat)) (hp : ∀ i, place i = os[i]?) : ∀ (ps : List (Nat × Value)) (cs : List Value) (r : List Value), fillP os cs ps = some r → Instr.fill place cs.toArray ps = some r.toArray
  | [], cs, r, h => by simp [fillP] at h; subst h; rfl
  | (i, v) :: ps, cs, r, h => by
    unfold fillP at h
    unfold Instr.fill
    rw [hp i]
    cases ho : os[i]? with
    | none => rw [ho] at h; cases h
    | some q =>
      obtain ⟨off, size⟩ := q
      rw [ho] at h
      simp only at h ⊢
      by_cases hc : (v.cells.size ≠ size || off + v.cells.size > cs.length) = true
      · rw [if_pos hc] at h; cases h
      · rw [if_neg hc] at h
        have hc' : ¬ (v.cells.size ≠ size || off + v.cells.size > cs.toArray.size) = true := by simpa using hc
        rw [if_neg hc']
        have hfit : off + v.cells.toList.length ≤ cs.length := by
          simp only [Bool.or_eq_true, not_or, decide_eq_true_eq] at hc
          have := hc.2
          simp; omega
        have e : (v.cells.zipIdx.foldl (fun (cs : Array Value) (c : Value × Nat) => cs.setIfInBounds (off + c.2) c.1) cs.toArray) = (splice cs off v.cells.toList).toArray := by
          have := fold_set v.cells.toList off 0 cs.toArray (by simpa using hfit)
          simp only [Nat.add_zero] at this
          rw [← Array.toList_inj]
          simp only [List.toList_toArray] at this ⊢
          rw [← this, ← Array.foldl_toList, Array.toList_zipIdx]
        rw [e]
        exact fill_eq os place hp ps _ r h
theorem Qt.build {t : TypeId} {parts : Array (Nat × Operand)} (os : List (Nat × Nat)) (zs cs : List Value) (pv : List (Nat × Value)) (ho : offs P t = some os) (hz : zeroB P t zs) (hp : parts.toList.map (fun p => (p.1, ev n f p.2)) = pv.map fun p => (p.1, some p.2)) (hf : fillP os zs pv = some cs) : Qt P B n S ⟨d, .build t parts, ty, pos, af, gd⟩ f (.agg cs.toArray) := ⟨fun w _ => by
  have hpv : parts.toList.map (fun (p : Nat × Operand) => (p.1, evu n f p.2)) = pv := by
    have e := congrArg (List.map (fun p : Nat × Option Value => (p.1, p.2.getD undef))) hp
    simp only [List.map_map, Function.comp_def, Option.getD_some, List.map_id'] at e
    exact e
  unfold offs at ho
  split at ho
  · rename_i fs hu
    unfold zeroB at hz
    cases hi : P.info? t with
    | none => rw [hi] at hz; cases hz
    | some i =>
      rw [hi] at hz
      simp only [Option.bind_some] at hz
      cases hzz : i.zero with
      | none => rw [hzz] at hz; cases hz
      | some z =>
        rw [hzz] at hz
        simp only [Option.map_some, Option.some.injEq] at hz
        have key : ∀ (l : List Field) (os : List (Nat × Nat)), l.mapM (fun f => (szOf P f.type).map (Prod.mk f.offset)) = some os → (l.mapM (fun f => Functor.map (Prod.mk f.offset) (sizeOf f.type)) : Sem (List (Nat × Nat))).run P w = .ok os w := by
          intro l
          induction l with
          | nil => intro os h; simp at h; subst h; simp
          | cons a l ih =>
            intro os h
            rw [List.mapM_cons] at h
            cases ha : szOf P a.type with
            | none => rw [ha] at h; simp at h
            | some k =>
              rw [ha] at h
              cases hl : l.mapM (fun f => (szOf P f.type).map (Prod.mk f.offset)) with
              | none => rw [hl] at h; simp at h
              | some os' =>
                rw [hl] at h
                simp at h
                subst h
                obtain ⟨j, hj, hjs⟩ := info_of_size ha
                have := ih os' hl
                rw [List.mapM_cons]
                have h1 : (sizeOf a.type).run P w = .ok k w := by simp [sizeOf, typeInfo, hj, hjs]
                simp [h1, this]
        have hm : (fs.mapM (fun f => Functor.map (Prod.mk f.offset) (sizeOf f.type)) : Sem (Array (Nat × Nat))).run P w = .ok os.toArray w := by
          rw [Array.mapM_eq_mapM_toList]
          have := key fs.toList os ho
          simp [this]
        have hfl := fill_eq os (os[·]?) (fun i => rfl) pv zs cs hf
        show ((do pure (.value (← Instr.build t (parts.map fun p => (p.1, evu n f p.2)))) : Sem Next)).run P w = _
        simp [Instr.build, zeroValue, typeInfo, hi, hzz, run_underlying hu, hm, hpv, hz, hfl]
  · cases ho⟩
end
end Go.Proofs.Ytopbkdpbljebgaa

/- More rules: strings' parts and sums, arrays' elements, bools; rows' cells; making slices. Conditions: of each rule its own. -/
set_option linter.unusedSimpArgs false
set_option linter.unusedVariables false
namespace Go.Proofs.Ytopbkdpbljebgaa
open Go.RowKit
section
variable {P : Program} {B : Base} {n : Nat} {S l r : List Assn} {f : Fr} {K : Value → List Assn → Prop}
variable {d : Option Tmp} {ty : TypeId} {pos : String} {af : Array Edge} {gd : Option (Nat × Bool)}

theorem strOf_toList (l : List UInt8) : (strOf l).toList = l := ByteArray.toList_mk l
theorem Qt.neqS {t t2 : TypeId} {x y : Operand} {a b : List UInt8} (hx : ev n f x = some (.string (strOf a))) (hy : ev n f y = some (.string (strOf b))) : Qt P B n S ⟨d, .binOp .neq t x y t2, ty, pos, af, gd⟩ f (.bool (decide (a ≠ b))) := ⟨fun w _ => by
  have : (!(a == b)) = decide (a ≠ b) := by by_cases h : a = b <;> simp [h]
  simp [execOp, evu_eq hx, evu_eq hy, eqGuard, Go.binOp, Op.stringOp, strOf_toList, this]⟩
theorem Qt.eqlB {t t2 : TypeId} {x y : Operand} {a b : Bool} (ht : (match P.underlying t with | some .bool => true | _ => false) = true) (hx : ev n f x = some (.bool a)) (hy : ev n f y = some (.bool b)) : Qt P B n S ⟨d, .binOp .eql t x y t2, ty, pos, af, gd⟩ f (.bool (a == b)) := ⟨fun w _ => by
  split at ht
  · rename_i hu
    have : (Op.equal t (.bool a) (.bool b)).run P w = .ok (a == b) w := by
      show (Op.equalIn (9999 + 1) t (.bool a) (.bool b)).run P w = _
      rw [Op.equalIn]; simp [run_underlying hu]
    simp [execOp, evu_eq hx, evu_eq hy, eqGuard, Go.binOp, this]
  · cases ht⟩
theorem Qt.neqB {t t2 : TypeId} {x y : Operand} {a b : Bool} (ht : (match P.underlying t with | some .bool => true | _ => false) = true) (hx : ev n f x = some (.bool a)) (hy : ev n f y = some (.bool b)) : Qt P B n S ⟨d, .binOp .neq t x y t2, ty, pos, af, gd⟩ f (.bool (!(a == b))) := ⟨fun w _ => by
  split at ht
  · rename_i hu
    have : (Op.equal t (.bool a) (.bool b)).run P w = .ok (a == b) w := by
      show (Op.equalIn (9999 + 1) t (.bool a) (.bool b)).run P w = _
      rw [Op.equalIn]; simp [run_underlying hu]
    simp [execOp, evu_eq hx, evu_eq hy, eqGuard, Go.binOp, this]
  · cases ht⟩
def arrB (P : Program) (t len e sz : Nat) : Bool := (match P.underlying t with | some (.array m e') => e' == e && m == len | _ => false) && decide (szOf P e = some sz)
theorem Qt.indexA {t len e sz : Nat} {x y : Operand} {g o : Nat} {k : IntKind} {i : Int} (j : Nat) (ht : arrB P t len e sz = true) (hx : ev n f x = some (.pointer (some ⟨g, o, none⟩))) (hy : ev n f y = some (.int k i)) (hj : i = (j : Int)) (hl : j < len) :
    Qt P B n S ⟨d, .indexAddr t x y, ty, pos, af, gd⟩ f (.pointer (some ⟨g, o + j * sz, none⟩)) := ⟨fun w _ => by
  unfold arrB at ht
  simp only [Bool.and_eq_true, decide_eq_true_eq] at ht
  obtain ⟨h1, h2⟩ := ht
  split at h1
  · rename_i m e' hu
    simp at h1
    obtain ⟨rfl, rfl⟩ := h1
    obtain ⟨i', hi, hs⟩ := info_of_size h2
    subst hj
    simp [execOp, Instr.indexAt, evu_eq hx, evu_eq hy, asIntOf, run_underlying hu, Instr.sureAddr, sizeOf, typeInfo, hi, hs, hl, Addr.add_mid]
  · cases h1⟩
theorem Qt.lenSt {t : TypeId} {x : Operand} {a : List UInt8} (ht : isStr P t = true) (hx : ev n f x = some (.string (strOf a))) : Qt P B n S ⟨d, .call ⟨.builtin .len, #[x], #[t]⟩, ty, pos, af, gd⟩ f (.int .i64 a.length) := by
  have := Qt.lenS (B := B) (S := S) (d := d) (ty := ty) (pos := pos) (af := af) (gd := gd) ht hx
  rwa [size_strOf] at this
theorem SrcOf.blk {tx sz g m cap : Nat} {C : List Value} [k : Rd B g l C] (hk : sliceZ P tx sz = true) (hl : C.length = m * sz) (h1 : ∀ x ∈ C, x.oneCell' = true) : SrcOf P B l sz tx (.slice (some ⟨g, 0, none⟩) m cap) m C := SrcOf.cells (g := g) (o := 0) hk (fun j v h => by rw [Nat.zero_add]; exact h) hl h1
/-! rows' cells -/
theorem map_at {α : Type} (g : α → Value) (xs : List α) (j : Nat) (h : j < xs.length) : (xs.map g)[0 + j * 1]? = some (g xs[j]) := by simp [h]
theorem flat_cell {α : Type} (g : α → List Value) (sz : Nat) (xs : List α) (hg : ∀ x ∈ xs, (g x).length = sz) (j k : Nat) (hj : j < xs.length) {v : Value} (hv : (g xs[j])[k]? = some v) : (xs.flatMap g)[0 + j * sz + k]? = some v := by
  rw [Nat.zero_add, ← List.getElem?_drop, flat_drop g sz xs hg j hj, List.getElem?_append_left (List.getElem?_eq_some_iff.1 hv).1]
  exact hv
theorem flat_cell0 {α : Type} (g : α → List Value) (sz : Nat) (xs : List α) (hg : ∀ x ∈ xs, (g x).length = sz) (j : Nat) (hj : j < xs.length) {v : Value} (hv : (g xs[j])[0]? = some v) : (xs.flatMap g)[0 + j * sz]? = some v := flat_cell g sz xs hg j 0 hj hv
theorem rdl_of {C : List Value} : ∀ {vs : List Value} {o : Nat}, (∀ j v, vs[j]? = some v → C[o + j]? = some v) → rdl C o vs
  | [], _, _ => trivial
  | v :: vs, o, h => ⟨h 0 v rfl, rdl_of fun j u hu => by have := h (j + 1) u (by simpa using hu); rwa [Nat.add_assoc, Nat.add_comm 1 j]⟩
theorem rdl_flat {α : Type} (g : α → List Value) (sz : Nat) (xs : List α) (hg : ∀ x ∈ xs, (g x).length = sz) (j : Nat) (hj : j < xs.length) : rdl (xs.flatMap g) (0 + j * sz) (g xs[j]) :=
  rdl_of fun k _ hv => flat_cell g sz xs hg j k hj hv
theorem bytes_at (b : List UInt8) (j : Nat) (h : j < b.length) : (bytesV b)[0 + j * 1]? = some (.int .u8 b[j].toNat) := by simp [bytesV, h]

/-- A slice that lies in memory that is only read. -/
def RoS (B : Base) (v : Value) (cs : List Value) : Prop := ∃ a cap, v = .slice a cs.length cap ∧ (cs = [] ∨ ∃ b o C, a = some ⟨b, o, none⟩ ∧ ROc B b C ∧ ∀ j u, cs[j]? = some u → C[o + j * 1]? = some u)
theorem RoS.nil (B : Base) : RoS B (.slice none 0 0) [] := ⟨none, 0, rfl, .inl rfl⟩

/-- 'make([]T, n)'. -/
theorem Ef.make {t e sz : Nat} {x y : Operand} {k k2 : IntKind} {i i2 : Int} (m : Nat) (z : Value) (bytes : Nat) (E : ElemOk P t e sz bytes) (hz : (P.info? e).bind (·.zero) = some z) (hx : ev n f x = some (.int k i)) (hy : ev n f y = some (.int k2 i2)) (hi : i = (m : Int)) (hi2 : i2 = (m : Int)) (hb : bytes * m ≤ 281474976710656) (hm : m ≤ maxLen)
    (h : ∀ g, K (.slice (some ⟨g, 0, none⟩) m m) (row (.slice (some ⟨g, 0, none⟩) m m) e sz m (madeCells z.cells (m * sz)).toList :: l)) : Ef P B n ⟨d, .makeSlice t x y, ty, pos, af, gd⟩ f l K := ⟨fun w next Q ho hk => by
  obtain ⟨j, z', hj, hz', hs, hby, _⟩ := E.ex
  rw [hj] at hz
  simp only [Option.bind_some] at hz
  rw [hz'] at hz
  cases hz
  subst hi; subst hi2
  obtain ⟨w', hr, h1, h2⟩ := run_make_full (P := P) w 0 t e j z sz E.ht hj hz' hs k k2 m (by rw [hby]; exact hb) hm (Nat.zero_le _)
  unfold Oper.wp execOp
  simp only [eval_act', evu_eq hx, evu_eq hy, Sem.run_bind, hr, Sem.run_pure, Result.andThen_ok]
  exact hk _ _ _ (h _) (ho.row_new ((Kept.refl _ _).grown h2 (by simp)) h1 (fun g hg => by simp [Value.ownBlock] at hg; omega))⟩
end
end Go.Proofs.Ytopbkdpbljebgaa

/- More rules: bytes that are read under assertions; numbers without sign; slices of slices; nil slices. Conditions: of each rule its own. -/
set_option linter.unusedSimpArgs false
set_option linter.unusedVariables false
namespace Go.Proofs.Ytopbkdpbljebgaa
open Go.RowKit
section
variable {P : Program} {B : Base} {n : Nat} {S l r : List Assn} {f : Fr} {K : Value → List Assn → Prop} {Φ : Post}
variable {d : Option Tmp} {ty : TypeId} {pos : String} {af : Array Edge} {gd : Option (Nat × Bool)}

/-- The slice v reads as cs in each world that has S. -/
def RdV (B : Base) (S : List Assn) (v : Value) (cs : List Value) : Prop := ∃ a cap, v = .slice a cs.length cap ∧ (cs = [] ∨ ∃ b o, a = some ⟨b, o, none⟩ ∧ ∀ w, Own B w S → w.rangeAt b o cs)
theorem RdV.mono {S S' : List Assn} {v : Value} {cs : List Value} (h : RdV B S v cs) (hs : ∀ w, Own B w S' → Own B w S) : RdV B S' v cs := by
  obtain ⟨a, cap, e, h⟩ := h
  refine ⟨a, cap, e, h.imp id ?_⟩
  rintro ⟨b, o, e1, h1⟩
  exact ⟨b, o, e1, fun w ho => h1 w (hs w ho)⟩
theorem RdV.reads {v : Value} {cs : List Value} (h : RdV B S v cs) (w : World) (ho : Own B w S) : ∃ fp, Reads w v cs fp := by
  obtain ⟨a, cap, rfl, h | ⟨b, o, rfl, h⟩⟩ := h
  · exact ⟨[], a, cap, rfl, .inl h⟩
  · exact ⟨[b], _, cap, rfl, .inr ⟨b, o, rfl, h w ho, by simp⟩⟩
theorem RdV.form {v : Value} {cs : List Value} {m : Nat} (h : RdV B S v cs) (hm : cs.length = m) : ∃ a cap, v = .slice a m cap := by
  obtain ⟨a, cap, rfl, _⟩ := h
  exact ⟨a, cap, by rw [hm]⟩
theorem RdV.nil (S : List Assn) (c : Nat) : RdV B S (.slice none 0 c) [] := ⟨none, c, rfl, .inl rfl⟩
theorem RdV.empty (S : List Assn) (a : Option Addr) (c : Nat) : RdV B S (.slice a 0 c) [] := ⟨a, c, rfl, .inl rfl⟩
theorem RdV.ofRow {p : Option Addr} {m c e : Nat} {cs : List Value} (hS : ∀ w, Own B w S → w.ownsRow 0 e 1 (.slice p m c) m cs) (hm : cs.length = m) (hp : 0 < m → ∃ g, p = some ⟨g, 0, none⟩) : RdV B S (.slice p m c) cs := by
  refine ⟨p, c, by rw [hm], ?_⟩
  rcases Nat.eq_zero_or_pos m with h0 | h0
  · exact .inl (List.eq_nil_of_length_eq_zero (by omega))
  · obtain ⟨g, rfl⟩ := hp h0
    refine .inr ⟨g, 0, rfl, fun w ho j v hv => ?_⟩
    have := (hS w ho).cells (g := g) rfl j v hv
    rwa [Addr.add_mid] at this
/-- Part of a readable slice. -/
theorem RdV.sub {a : Option Addr} {m cap : Nat} {cs : List Value} (h : RdV B S (.slice a m cap) cs) (lo hi cap' : Nat) (hl : lo ≤ hi) (hh : hi ≤ cs.length) (a' : Option Addr) (ha : lo < hi → ∀ b o, a = some ⟨b, o, none⟩ → a' = some ⟨b, o + lo, none⟩) : RdV B S (.slice a' (hi - lo) cap') ((cs.take hi).drop lo) := by
  have hlen : ((cs.take hi).drop lo).length = hi - lo := by simp; omega
  refine ⟨a', cap', by rw [hlen], ?_⟩
  rcases Nat.eq_or_lt_of_le hl with h0 | h0
  · exact .inl (List.eq_nil_of_length_eq_zero (by omega))
  · obtain ⟨a2, c2, e, h1 | ⟨b, o, e1, h1⟩⟩ := h
    · subst h1; simp at hh; omega
    · injection e with e2 _ _
      refine .inr ⟨b, o + lo, ha h0 b o (e2.trans e1), fun w ho j v hv => ?_⟩
      rw [Nat.add_assoc]
      refine h1 w ho (lo + j) v ?_
      rw [List.getElem?_drop, List.getElem?_take] at hv
      split at hv
      · exact hv
      · cases hv
theorem RdV.at {a : Option Addr} {m c : Nat} {cs : List Value} (h : RdV B S (.slice a m c) cs) (hp : 0 < m) : ∃ b o, a = some ⟨b, o, none⟩ ∧ ∀ j (hj : j < cs.length) w, Own B w S → w.cell? ⟨b, o + j * 1, none⟩ = some cs[j] := by
  obtain ⟨a2, c2, e, h1 | ⟨b, o, e1, h1⟩⟩ := h
  · subst h1; injection e with _ e2 _; simp at e2; omega
  · injection e with e2 _ _
    exact ⟨b, o, e2.trans e1, fun j hj w ho => by rw [Nat.mul_one]; exact h1 w ho j _ (List.getElem?_eq_getElem hj)⟩
theorem SrcOf.rd {tx m : Nat} {u : Value} {cs : List Value} (h : RdV B l u cs) (hk : sliceZ P tx 1 = true) (hm : cs.length = m) (h1 : ∀ x ∈ cs, x.oneCell' = true) : SrcOf P B l 1 tx u m cs := ⟨fun w ho => by
  subst hm
  obtain ⟨e', he⟩ := sliceZ_spec hk
  obtain ⟨fp, hr⟩ := h.reads w ho
  exact Src.ofReads he hr h1⟩
/-- A load whose cell is known in each world. -/
theorem Qt.loadW {t g o : Nat} {x : Operand} {v : Value} (h1 : oneB P t = true) (hx : ev n f x = some (.pointer (some ⟨g, o, none⟩))) (hc : ∀ w, Own B w S → w.cell? ⟨g, o, none⟩ = some v) : Qt P B n S ⟨d, .load t x, ty, pos, af, gd⟩ f v := ⟨fun w ho => by
  have hc := hc w ho
  unfold oneB at h1
  split at h1
  · cases h1
  · cases h1
  · rename_i dd n1 n2 hu
    have hagg : (isAgg t).run P w = .ok false w := by
      unfold isAgg
      simp only [Sem.run_bind, run_underlying hu, Result.andThen_ok]
      cases dd <;> first | exact (n1 _ rfl).elim | exact (n2 _ _ rfl).elim | rfl
    simp [execOp, evu_eq hx, Instr.loadAt, Instr.sureAddr, loadVar, hagg, Go.load, Sem.run, hc]
  · cases h1⟩
theorem T.ex {c : Code} {α : Type} {l' : α → List Assn} (h : ∀ w, Own B w l → ∃ x, Own B w (l' x)) (k : ∀ x, T P B n c Φ f (l' x)) : T P B n c Φ f l := ⟨fun Q w hf ho => by
  obtain ⟨x, hx⟩ := h w ho
  exact (k x).run Q w hf hx⟩

/-! slices against nil, and parts of slices -/
/-! numbers without sign -/
theorem ofInt_nat (w m : Nat) : BitVec.ofInt w (m : Int) = BitVec.ofNat w m := by simp
end
theorem RoS.rd {B : Base} {v : Value} {cs : List Value} (h : RoS B v cs) (S : List Assn) : RdV B S v cs := by
  obtain ⟨a, cap, rfl, h | ⟨b, o, C, rfl, k, h⟩⟩ := h
  · exact ⟨a, cap, rfl, .inl h⟩
  · exact ⟨_, cap, rfl, .inr ⟨b, o, rfl, fun w ho => ho.range (g := b) (C := C) (fun j u hj => by have := h j u hj; rwa [Nat.mul_one] at this)⟩⟩

end Go.Proofs.Ytopbkdpbljebgaa
