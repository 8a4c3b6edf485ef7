/- A law for regions that draw their order: the first n operations in whatever order, under a condition on the world that may be strengthened on the way; then the tail, in its forced order, as a plain list. Conditions: the edges, asked by Bools. -/
import Derived.Test.YtegohgaccmkigaaDoorRows
import Derived.WalkKit
import Derived.OrdersHeld
import Derived.StillTail
set_option linter.unusedSimpArgs false
set_option linter.unusedVariables false
namespace Go.Proofs.YtegohgaccmkigaaDoor
section
variable {P : Program} {ops : Array Oper} {Q : Exit → Act → World → Prop} {md : Region.Mode}

def doneB (n size : Nat) : Array Bool := ((List.range size).map fun i => decide (i < n)).toArray

/-- Each operation from n on waits for all before n, or for one between n and itself. -/
def directB (md : Region.Mode) (ops : Array Oper) (n : Nat) : Bool :=
  (List.range ops.size).all fun j => decide (j < n) || (List.range n).all (fun i => Region.waitsFor md ops j i) || (List.range j).any (fun t => decide (n ≤ t) && Region.waitsFor md ops j t)

def TailFree (n : Nat) (ops : Array Oper) (listed : Array Bool) : Prop := ∀ t, n ≤ t → t < ops.size → listed.getD t true = false

def wpT (P : Program) (md : Region.Mode) (ops : Array Oper) (Q : Exit → Act → World → Prop) (n : Nat) (T : Act → World → Prop) : Nat → (World → Prop) → Array Bool → Act → World → Prop
  | 0, _, listed, a, w => listed = doneB n ops.size ∧ T a w
  | f + 1, S, listed, a, w => Region.ready md ops listed ≠ [] ∧ ∀ i ∈ Region.ready md ops listed, i < n ∧
      wpOp P ops Q i (fun a' w' => ∃ S' : World → Prop, (∀ u, S' u → S u) ∧ S' w' ∧ wpT P md ops Q n T f S' (listed.setIfInBounds i true) a' w') a w

theorem getD_clash {listed : Array Bool} {i : Nat} (h : listed.getD i true = false) (h' : listed.getD i false = true) : False := by
  rcases Nat.lt_or_ge i listed.size with hl | hl
  · simp [hl] at h h'; rw [h] at h'; cases h'
  · simp [Array.getElem?_eq_none hl] at h

theorem head_only {n i : Nat} {listed : Array Bool} (hd : directB md ops n = true) (ht : TailFree n ops listed) (hin : i < n) (hun : listed.getD i true = false) :
    ∀ j ∈ Region.ready md ops listed, j < n := by
  intro j hj
  obtain ⟨_, oj, hoj, hall⟩ := mem_ready.1 hj
  have hlt := (Array.getElem?_eq_some_iff.1 hoj).1
  have h1 := List.all_eq_true.1 hd j (List.mem_range.2 hlt)
  simp only [Bool.or_eq_true, decide_eq_true_eq] at h1
  rcases h1 with (h1 | h1) | h1
  · exact h1
  · obtain ⟨o', ho', e, he, hb, hon⟩ := Region.waitsFor_spec (List.all_eq_true.1 h1 i (List.mem_range.2 hin))
    have : o' = oj := Option.some.inj (ho'.symm.trans hoj)
    subst this
    have h2 := hall e he hb
    rw [hon] at h2
    exact (getD_clash hun h2).elim
  · obtain ⟨t, htm, h2⟩ := List.any_eq_true.1 h1
    simp only [Bool.and_eq_true, decide_eq_true_eq] at h2
    obtain ⟨o', ho', e, he, hb, hon⟩ := Region.waitsFor_spec h2.2
    have : o' = oj := Option.some.inj (ho'.symm.trans hoj)
    subst this
    have h3 := hall e he hb
    rw [hon] at h3
    exact (getD_clash (ht t h2.1 (by have := List.mem_range.1 htm; omega)) h3).elim

theorem TailFree.set {n i : Nat} {listed : Array Bool} (ht : TailFree n ops listed) (hin : i < n) : TailFree n ops (listed.setIfInBounds i true) := fun t h1 h2 => by
  rw [getD_set_ne true (by omega)]; exact ht t h1 h2

theorem getD_doneB {n size j : Nat} (hj : j < n) : (doneB n size).getD j true = true := by
  rcases Nat.lt_or_ge j size with h | h
  · simp [doneB, h, hj]
  · simp [doneB, Array.getElem?_eq_none, h]

theorem YieldsIf.weaken {S S' : World → Prop} {o : Oper} {v : Value} {a : Act} (h : YieldsIf P ops S o v a) (hs : ∀ u, S' u → S u) : YieldsIf P ops S' o v a :=
  h.imp (fun ⟨hw, hv⟩ => ⟨hw, fun w h => hv w (hs w h)⟩) id

theorem wpT_first {n i : Nat} {T : Act → World → Prop} {oi : Oper} {v : Value} (hi : ops[i]? = some oi) (hsel : ∀ (j : Nat) (o : Oper) cs b, ops[j]? = some o → o.op ≠ .select cs b)
    (hQ : ∀ c a w, Q (.panic c) (a.put oi.dst v) w → Q (.panic c) a w) (hd : directB md ops n = true) (hin : i < n) :
    ∀ (f : Nat) (S : World → Prop) (listed : Array Bool) (a : Act) (w : World), TailFree n ops listed →
      (∀ j oj, ops[j]? = some oj → j ≠ i → listed.getD j true = false → (∀ e ∈ oj.after, Region.binds md e = true → e.on ≠ i) → oi.apart ops oj = true) →
      i ∈ Region.ready md ops listed → YieldsIf P ops S oi v a → S w →
      wpT P md ops Q n T f S (listed.setIfInBounds i true) (a.put oi.dst v) w → wpT P md ops Q n T (f + 1) S listed a w := by
  intro f
  induction f with
  | zero =>
    intro S listed a w ht _ hr hy hS H
    refine ⟨(fun h => (by rw [h] at hr; cases hr)), fun j hj => ?_⟩
    have hjn := head_only hd ht hin (mem_ready.1 hr).1 j hj
    refine ⟨hjn, ?_⟩
    by_cases hji : j = i
    · subst hji; exact hy.wpOp hi hS ⟨S, fun _ h => h, hS, H⟩
    · have h1 := (mem_ready.1 hj).1
      rw [← getD_set_ne true (Ne.symm hji), H.1, getD_doneB hjn] at h1
      cases h1
  | succ f ih =>
    intro S listed a w ht hfree hr hy hS H
    refine ⟨(fun h => (by rw [h] at hr; cases hr)), fun j hj => ?_⟩
    have hjn := head_only hd ht hin (mem_ready.1 hr).1 j hj
    refine ⟨hjn, ?_⟩
    by_cases hji : j = i
    · subst hji; exact hy.wpOp hi hS ⟨S, fun _ h => h, hS, H⟩
    · have h1 := (H.2 j (ready_mono hj hji)).2
      obtain ⟨hjun, oj, hoj, hall⟩ := mem_ready.1 hj
      have hnot : ∀ e ∈ oj.after, Region.binds md e = true → e.on ≠ i := fun e he hb heq => by
        have h2 := hall e he hb
        rw [heq] at h2
        exact getD_clash (mem_ready.1 hr).1 h2
      have h2 := wpOp_putIf (S := S) hoj (hfree j oj hoj hji hjun hnot) (fun cs b => hsel i oi cs b hi) (fun cs b => hsel j oj cs b hoj) hQ hy h1
      refine wpOp_mono (fun a' w' h3 => ?_) h2
      obtain ⟨hy', S', hSS, hS', hT⟩ := h3
      refine ⟨S', hSS, hS', ih S' (listed.setIfInBounds j true) a' w' (ht.set hjn) (fun k ok hk hki hun hno => ?_) (ready_mono hr (Ne.symm hji)) (YieldsIf.weaken hy' hSS) hS' ?_⟩
      · refine hfree k ok hk hki ?_ hno
        by_cases hjk : j = k
        · subst hjk; exact hjun
        · rw [getD_set_ne true hjk] at hun; exact hun
      · rw [Array.setIfInBounds_comm _ _ hji]; exact hT

def tailFreeB (n : Nat) (ops : Array Oper) (listed : Array Bool) : Bool := (List.range ops.size).all fun t => decide (t < n) || !listed.getD t true
theorem tailFreeB_spec {n : Nat} {listed : Array Bool} (h : tailFreeB n ops listed = true) : TailFree n ops listed := fun t h1 h2 => by
  have := List.all_eq_true.1 h t (List.mem_range.2 h2)
  simpa [Nat.not_lt.2 h1] using this

/-- all that a take asks of the region's edges. -/
def takeB (md : Region.Mode) (ops : Array Oper) (n i : Nat) (listed : Array Bool) : Bool :=
  Region.noSelect ops && Region.free md ops listed i && (Region.ready md ops listed).contains i && decide (i < n) && directB md ops n && tailFreeB n ops listed

theorem getElem?_of_drop {i : Nat} {o : Oper} {rest : List Oper} (h : ops.toList.drop i = o :: rest) : ops[i]? = some o := by
  have : ops.toList[i]? = some o := by rw [← List.head?_drop, h]; rfl
  simpa using this

/-- Take number i first: it yields v in every world that meets S. -/
theorem wpT_take {rest : List Oper} {n i f : Nat} {S : World → Prop} {T : Act → World → Prop} {oi : Oper} {v : Value} {listed : Array Bool} {a : Act} {w : World} (hi' : ops.toList.drop i = oi :: rest) (hb : takeB md ops n i listed = true)
    (hQ : ∀ c a w, Q (.panic c) (a.put oi.dst v) w → Q (.panic c) a w) (hS : S w) (hy : YieldsIf P ops S oi v a)
    (h : wpT P md ops Q n T f S (listed.setIfInBounds i true) (a.put oi.dst v) w) : wpT P md ops Q n T (f + 1) S listed a w := by
  have hi := getElem?_of_drop hi'
  simp only [takeB, Bool.and_eq_true, decide_eq_true_eq] at hb
  obtain ⟨⟨⟨⟨⟨h1, h2⟩, h3⟩, h4⟩, h5⟩, h6⟩ := hb
  exact wpT_first hi (Region.noSelect_spec h1) hQ h5 h4 f S listed a w (tailFreeB_spec h6) (Region.free_spec hi h2) (by simpa using h3) hy hS h

/-- One alone may come up. -/
theorem wpT_one {rest : List Oper} {n i f : Nat} {S : World → Prop} {T : Act → World → Prop} {o : Oper} {listed : Array Bool} {a : Act} {w : World} (hi' : ops.toList.drop i = o :: rest) (hg : Region.wanted o (yielded ops a.tmps) = true)
    (hb : (decide (Region.ready md ops listed = [i]) && decide (i < n)) = true)
    (h : ∀ K : Act → World → Prop, (∀ (S' : World → Prop) a' w', (∀ u, S' u → S u) → S' w' → wpT P md ops Q n T f S' (listed.setIfInBounds i true) a' w' → K a' w') → o.wp P a w K Q) :
    wpT P md ops Q n T (f + 1) S listed a w := by
  have hi := getElem?_of_drop hi'
  simp only [Bool.and_eq_true, decide_eq_true_eq] at hb
  refine ⟨by rw [hb.1]; simp, fun j hj => ?_⟩
  rw [hb.1] at hj
  simp only [List.mem_singleton] at hj
  subst hj
  refine ⟨hb.2, ?_⟩
  unfold wpOp
  simp only [hi, hg, if_true]
  exact .inl (h _ fun S' a' w' h1 h2 h3 => ⟨S', h1, h2, h3⟩)

/-- Two may come up: both ways. -/
theorem wpT_two {rest rest' : List Oper} {n i j f : Nat} {S : World → Prop} {T : Act → World → Prop} {oi oj : Oper} {listed : Array Bool} {a : Act} {w : World} (hi' : ops.toList.drop i = oi :: rest) (hj' : ops.toList.drop j = oj :: rest') (hgi : oi.guard = none) (hgj : oj.guard = none)
    (hb : (decide (Region.ready md ops listed = [i, j]) && decide (i < n) && decide (j < n)) = true)
    (h1 : ∀ K : Act → World → Prop, (∀ (S' : World → Prop) a' w', (∀ u, S' u → S u) → S' w' → wpT P md ops Q n T f S' (listed.setIfInBounds i true) a' w' → K a' w') → oi.wp P a w K Q)
    (h2 : ∀ K : Act → World → Prop, (∀ (S' : World → Prop) a' w', (∀ u, S' u → S u) → S' w' → wpT P md ops Q n T f S' (listed.setIfInBounds j true) a' w' → K a' w') → oj.wp P a w K Q) :
    wpT P md ops Q n T (f + 1) S listed a w := by
  have hi := getElem?_of_drop hi'
  have hj := getElem?_of_drop hj'
  simp only [Bool.and_eq_true, decide_eq_true_eq] at hb
  refine ⟨by rw [hb.1.1]; simp, fun k hk => ?_⟩
  rw [hb.1.1] at hk
  simp only [List.mem_cons, List.not_mem_nil, or_false] at hk
  rcases hk with rfl | rfl
  · refine ⟨hb.1.2, ?_⟩
    unfold wpOp
    simp only [hi, Region.wanted, hgi, if_true]
    exact .inl (h1 _ fun S' a' w' e1 e2 e3 => ⟨S', e1, e2, e3⟩)
  · refine ⟨hb.2, ?_⟩
    unfold wpOp
    simp only [hj, Region.wanted, hgj, if_true]
    exact .inl (h2 _ fun S' a' w' e1 e2 e3 => ⟨S', e1, e2, e3⟩)

/-- All of the head are done: the tail is left. -/
theorem wpT_done {n : Nat} {S : World → Prop} {T : Act → World → Prop} {listed : Array Bool} {a : Act} {w : World} (hb : listed = doneB n ops.size) (h : T a w) : wpT P md ops Q n T 0 S listed a w := ⟨hb, h⟩

theorem wpAny_of_wpT {n : Nat} (hseq : Region.seqB md ops (ops.toList.drop n).length n (doneB n ops.size) = true) :
    ∀ (f : Nat) (S : World → Prop) (listed : Array Bool) (a : Act) (w : World), wpT P md ops Q n (wpList P ops Q (ops.toList.drop n)) f S listed a w → wpAny P md ops Q (f + (ops.toList.drop n).length) listed a w
  | 0, _, listed, a, w, h => by
    obtain ⟨rfl, h⟩ := h
    rw [Nat.zero_add]
    exact wpAny_of_seq _ n _ a w (fun j => by simp) hseq h
  | f + 1, S, listed, a, w, h => by
    rw [show f + 1 + (ops.toList.drop n).length = (f + (ops.toList.drop n).length) + 1 by omega]
    refine ⟨fun h0 => absurd h0 h.1, fun i hi => wpOp_mono (fun a' w' h' => ?_) (h.2 i hi).2⟩
    obtain ⟨S', _, _, h'⟩ := h'
    exact wpAny_of_wpT hseq f S' _ a' w' h'

/-- The beginning. -/
theorem wp_region_T {id : Nat} {l : List Oper} {a : Act} {w : World} (n : Nat) (S : World → Prop) (hm : P.follows .mixedOrders = true) (hn : n ≤ l.length) (hseq : Region.seqB .any l.toArray (l.drop n).length n (doneB n l.length) = true)
    (h : wpT P .any l.toArray Q n (wpList P l.toArray Q (l.drop n)) n S (Array.replicate l.length false) a w.drew) : (Code.region id l.toArray true).wp P Q a w := by
  refine wp_region_any hm ?_
  have := wpAny_of_wpT (P := P) (md := .any) (ops := l.toArray) (Q := Q) (n := n) (by simpa using hseq) n S (Array.replicate l.length false) a w.drew h
  have e : n + (l.toArray.toList.drop n).length = l.toArray.size := by simp; omega
  rw [e] at this
  simpa using this
end
end Go.Proofs.YtegohgaccmkigaaDoor
