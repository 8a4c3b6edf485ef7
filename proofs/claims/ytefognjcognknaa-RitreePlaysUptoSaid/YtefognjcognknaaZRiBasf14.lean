/- The texts MqA RiI RiJ RiK RiL RiM RoP RiRd, one behind the other: what the law leans on. Conditions: as each theorem says. -/
import Derived.Test.YtefognjcognknaaZRiBasf13
import Derived.Maps.RangeRun
/- MpA with other names for the pure operations (putM, cutM, lookM), so that it can stand beside btree's. Written by sed from MpA. -/
set_option linter.unusedSimpArgs false
set_option linter.unusedVariables false
namespace Go.Proofs.Ytefognjcognknaa
open Go.RowKit
set_option linter.unusedSectionVars false

/-- What a map does with its keys: the value of a key, a key's value put, a key gone. -/
def lookM {α β : Type} [DecidableEq α] : List (α × β) → α → Option β
  | [], _ => none
  | p :: l, k => if p.1 = k then some p.2 else lookM l k
def putM {α β : Type} [DecidableEq α] : List (α × β) → α → β → List (α × β)
  | [], k, v => [(k, v)]
  | p :: l, k, v => if p.1 = k then (k, v) :: l else p :: putM l k v
def cutM {α β : Type} [DecidableEq α] (L : List (α × β)) (k : α) : List (α × β) := L.filter fun p => decide (p.1 ≠ k)

structure MapIs {α β : Type} (ke : α → Value) (ve : β → Value) (L : List (α × β)) (es : Array MapEntry) (clock : Nat) : Prop where
  st : MapKept.Stamped es clock
  eq : es.toList.map (fun e => (e.key, e.val)) = L.map fun p => (ke p.1, ve p.2)
def mpA {α β : Type} (ke : α → Value) (ve : β → Value) (g : Nat) (L : List (α × β)) : Assn := fun h => ∃ es clock, h g = some (.map es clock) ∧ MapIs ke ve L es clock
/-- A map that is ranged over: what is left to come. -/
def rgA {α β : Type} (ke : α → Value) (ve : β → Value) (r g : Nat) (L left : List (α × β)) : Assn := fun h => ∃ es clock seen c0, r ≠ g ∧ h g = some (.map es clock) ∧ MapIs ke ve L es clock ∧ h r = some (.mapIter (some g) clock seen c0) ∧ clock ≤ c0 ∧ (leftOf es seen).toList.map (fun e => (e.key, e.val)) = left.map fun p => (ke p.1, ve p.2)
/-- A map that is ranged over, with an entry at hand. -/
def reA {α β : Type} (ke : α → Value) (ve : β → Value) (r g : Nat) (L left : List (α × β)) (p : α × β) : Assn := fun h => ∃ (es : Array MapEntry) (clock : Nat) (seen : Array Nat) (e : MapEntry), r ≠ g ∧ h g = some (.map es clock) ∧ MapIs ke ve L es clock ∧ h r = some (.mapIter (some g) clock (seen.push e.born) clock) ∧ (leftOf es (seen.push e.born)).toList.map (fun e => (e.key, e.val)) = left.map (fun p => (ke p.1, ve p.2)) ∧ e ∈ es.toList ∧ e.key = ke p.1 ∧ e.val = ve p.2
/-- A map one of whose entries is at hand, by its stamp. -/
def msA {α β : Type} (ke : α → Value) (ve : β → Value) (g : Nat) (L : List (α × β)) (k : α) (b : Nat) : Assn := fun h => ∃ es clock, h g = some (.map es clock) ∧ MapIs ke ve L es clock ∧ ∃ e ∈ es.toList, e.key = ke k ∧ e.born = b

structure MapOk (P : Program) (t : TypeId) {α : Type} (ke : α → Value) (z : Value) : Prop where
  ex : ∃ kt et d, P.underlying t = some (.map kt et) ∧ P.underlying kt = some d ∧ (∀ a, MapKept.IsKey d (ke a)) ∧ (P.info? et).bind (·.zero) = some z
  inj : ∀ a b, ke a = ke b → a = b
theorem MapOk.mk3 {P : Program} {t : TypeId} {α : Type} {ke : α → Value} {z : Value} (kt et : TypeId) (d : TypeDesc) (h1 : P.underlying t = some (.map kt et)) (h2 : P.underlying kt = some d) (h3 : ∀ a, MapKept.IsKey d (ke a)) (h4 : (P.info? et).bind (·.zero) = some z) (h5 : ∀ a b, ke a = ke b → a = b) : MapOk P t ke z := ⟨⟨kt, et, d, h1, h2, h3, h4⟩, h5⟩
theorem i64_inj : ∀ a b : Int, Value.int .i64 a = .int .i64 b → a = b := fun a b h => by injection h
section
variable {P : Program} {B : Base} {n : Nat} {S l r : List Assn} {f : Fr} {K : Value → List Assn → Prop}
variable {d : Option Tmp} {ty : TypeId} {pos : String} {af : Array Edge} {gd : Option (Nat × Bool)}
variable {α β : Type} [DecidableEq α] {ke : α → Value} {ve : β → Value} {L left : List (α × β)} {g : Nat}

/-! plain laws of entries -/
theorem findNow_look {dk : TypeDesc} (hk : ∀ a, MapKept.IsKey dk (ke a)) (hi : ∀ a b, ke a = ke b → a = b) (k : α) : ∀ (es : List MapEntry) (L : List (α × β)) (i : Nat), es.map (fun e => (e.key, e.val)) = L.map (fun p => (ke p.1, ve p.2)) →
    (lookM L k = none ∧ Instr.findNow dk (ke k) es i = some none) ∨ ∃ v j, lookM L k = some v ∧ Instr.findNow dk (ke k) es i = some (some (i + j, ve v)) ∧ L[j]?.map (·.1) = some k ∧ ∀ (j' : Nat), j' < j → L[j']?.map (·.1) ≠ some k
  | [], [], i, _ => .inl ⟨rfl, rfl⟩
  | [], _ :: _, _, h => by simp at h
  | _ :: _, [], _, h => by simp at h
  | e :: es, p :: L, i, h => by
    simp only [List.map_cons, List.cons.injEq, Prod.mk.injEq] at h
    obtain ⟨⟨h1, h2⟩, h3⟩ := h
    obtain ⟨r, hr, hiff⟩ := MapKept.sameNow_of_keys (hk k) (hk p.1)
    by_cases e1 : p.1 = k
    · refine .inr ⟨p.2, 0, by simp [lookM, e1], ?_, by simp [e1], fun j' h => by omega⟩
      have : r = true := hiff.2 (by rw [e1])
      subst this
      simp [Instr.findNow, h1, hr, h2]
    · have : r = false := by
        cases r with
        | false => rfl
        | true => exact absurd (hi _ _ (hiff.1 rfl)).symm e1
      subst this
      have hf : Instr.findNow dk (ke k) (e :: es) i = Instr.findNow dk (ke k) es (i + 1) := by simp [Instr.findNow, h1, hr]
      rw [hf]
      rcases findNow_look hk hi k es L (i + 1) h3 with ⟨a1, a2⟩ | ⟨v, j, a1, a2, a3, a4⟩
      · exact .inl ⟨by simp [lookM, e1, a1], a2⟩
      · refine .inr ⟨v, j + 1, by simp [lookM, e1, a1], by rw [a2]; congr 3; omega, by simpa using a3, fun j' hj' => ?_⟩
        cases j' with
        | zero => simpa using e1
        | succ j' => simpa using a4 j' (by omega)
theorem putM_new {k : α} {v : β} : ∀ {L : List (α × β)}, lookM L k = none → putM L k v = L ++ [(k, v)]
  | [], _ => rfl
  | p :: L, h => by
    unfold lookM at h
    split at h
    · cases h
    · rename_i hne; simp [putM, hne, putM_new h]
theorem putM_old {k : α} {v : β} : ∀ {L : List (α × β)} {j : Nat}, L[j]?.map (·.1) = some k → (∀ (j' : Nat), j' < j → L[j']?.map (·.1) ≠ some k) → putM L k v = L.set j (k, v)
  | [], j, h, _ => by simp at h
  | p :: L, 0, h, _ => by simp at h; simp [putM, h]
  | p :: L, j + 1, h, h2 => by
    have := h2 0 (by omega)
    simp at this
    simp [putM, this, putM_old (L := L) (j := j) (by simpa using h) (fun j' hj' => by simpa using h2 (j' + 1) (by omega))]
theorem lookL_none_mem {k : α} : ∀ {L : List (α × β)}, lookM L k = none → ∀ p ∈ L, p.1 ≠ k
  | [], _, p, hp => by cases hp
  | q :: L, h, p, hp => by
    unfold lookM at h
    split at h
    · cases h
    · rename_i hne
      rcases List.mem_cons.1 hp with rfl | hp
      · exact hne
      · exact lookL_none_mem h p hp
theorem lookL_mem {k : α} {v : β} : ∀ {L : List (α × β)}, lookM L k = some v → (k, v) ∈ L
  | [], h => by cases h
  | q :: L, h => by
    unfold lookM at h
    split at h
    · rename_i e; injection h with h; subst e; subst h; exact List.mem_cons_self ..
    · exact List.mem_cons_of_mem _ (lookL_mem h)
theorem MapIs.len {es : Array MapEntry} {clock : Nat} (h : MapIs ke ve L es clock) : es.size = L.length := by
  have := congrArg List.length h.eq
  simpa using this
theorem MapIs.nodup {es : Array MapEntry} {clock : Nat} (h : MapIs ke ve L es clock) : (L.map (·.1)).Nodup := by
  have h1 : es.toList.map (·.key) = L.map fun p => ke p.1 := by
    have := congrArg (List.map Prod.fst) h.eq
    rw [List.map_map, List.map_map] at this
    exact this
  have h2 := h.st.2.2
  rw [h1] at h2
  have h3 : (L.map (·.1)).map ke = L.map fun p => ke p.1 := by rw [List.map_map]; rfl
  rw [← h3] at h2
  exact List.Pairwise.of_map ke (fun a b hab e => hab (by rw [e])) h2
theorem MapIs.at_ {es : Array MapEntry} {clock : Nat} (h : MapIs ke ve L es clock) {j : Nat} {e : MapEntry} (he : es[j]? = some e) : ∃ p, L[j]? = some p ∧ e.key = ke p.1 ∧ e.val = ve p.2 := by
  have := congrArg (·[j]?) h.eq
  simp only [List.getElem?_map, Array.getElem?_toList, he, Option.map_some] at this
  cases hp : L[j]? with
  | none => rw [hp] at this; simp at this
  | some p => rw [hp] at this; simp at this; exact ⟨p, rfl, this.1, this.2⟩
theorem MapIs.push {es : Array MapEntry} {clock : Nat} (h : MapIs ke ve L es clock) (hi : ∀ a b, ke a = ke b → a = b) {k : α} {v : β} (hn : lookM L k = none) : MapIs ke ve (putM L k v) (es.push ⟨ke k, ve v, clock⟩) (clock + 1) := by
  obtain ⟨h1, h2, h3⟩ := h.st
  refine ⟨⟨fun x hx => ?_, ?_, ?_⟩, by simp [putM_new hn, h.eq]⟩
  · simp at hx
    rcases hx with hx | rfl
    · have := h1 x (by simpa using hx); omega
    · exact Nat.lt_succ_self _
  · simp only [Array.toList_push, List.map_append, List.map_cons, List.map_nil]
    rw [List.nodup_append]
    refine ⟨h2, by simp, fun a ha b hb => ?_⟩
    simp at hb; subst hb
    obtain ⟨x, hx, rfl⟩ := List.mem_map.1 ha
    have := h1 x hx; omega
  · simp only [Array.toList_push, List.map_append, List.map_cons, List.map_nil]
    rw [List.nodup_append]
    refine ⟨h3, by simp, fun a ha b hb e => ?_⟩
    simp at hb; subst hb; subst e
    obtain ⟨x, hx, e⟩ := List.mem_map.1 ha
    obtain ⟨j, hj, rfl⟩ := List.getElem_of_mem hx
    obtain ⟨p, hp, e1, _⟩ := h.at_ (j := j) (e := es[j]) (by simp)
    have e' : ke p.1 = ke k := by rw [← e1]; exact e
    exact lookL_none_mem hn p (List.mem_of_getElem? hp) (hi _ _ e')
theorem MapIs.modify {es : Array MapEntry} {clock : Nat} (h : MapIs ke ve L es clock) {k : α} {v : β} {j : Nat} (h1 : L[j]?.map (·.1) = some k) (h2 : ∀ (j' : Nat), j' < j → L[j']?.map (·.1) ≠ some k) : MapIs ke ve (putM L k v) (es.modify j fun e => { e with key := ke k, val := ve v }) clock := by
  have hkey : ∀ e, es[j]? = some e → e.key = ke k := fun e he => by
    obtain ⟨p, hp, e1, _⟩ := h.at_ he
    rw [hp] at h1; simp at h1; rw [e1, h1]
  have hb : (es.modify j fun e => { e with key := ke k, val := ve v }).toList.map (·.born) = es.toList.map (·.born) := by
    apply List.ext_getElem?
    intro i
    simp only [List.getElem?_map, Array.getElem?_toList, Array.getElem?_modify]
    split
    · cases es[i]? <;> rfl
    · rfl
  have hk : (es.modify j fun e => { e with key := ke k, val := ve v }).toList.map (·.key) = es.toList.map (·.key) := by
    apply List.ext_getElem?
    intro i
    simp only [List.getElem?_map, Array.getElem?_toList, Array.getElem?_modify]
    split
    · rename_i e; subst e
      cases he : es[j]? with
      | none => rfl
      | some e => simp [hkey e he]
    · rfl
  refine ⟨⟨fun x hx => ?_, by rw [hb]; exact h.st.2.1, by rw [hk]; exact h.st.2.2⟩, ?_⟩
  · have : x.born ∈ (es.modify j fun e => { e with key := ke k, val := ve v }).toList.map (·.born) := List.mem_map_of_mem hx
    rw [hb] at this
    obtain ⟨y, hy, e⟩ := List.mem_map.1 this
    rw [← e]; exact h.st.1 y hy
  · rw [putM_old h1 h2]
    apply List.ext_getElem?
    intro i
    simp only [List.getElem?_map, Array.getElem?_toList, Array.getElem?_modify, List.getElem?_set]
    have := congrArg (·[i]?) h.eq
    simp only [List.getElem?_map, Array.getElem?_toList] at this
    have hlen := h.len
    by_cases e : j = i
    · subst e
      by_cases hj : j < L.length
      · rw [if_pos rfl, if_pos rfl, if_pos hj, Array.getElem?_eq_getElem (by omega)]; rfl
      · rw [if_pos rfl, if_pos rfl, if_neg hj, Array.getElem?_eq_none (by omega)]; rfl
    · rw [if_neg e, if_neg e]; exact this
theorem cutM_none {k : α} (h : lookM L k = none) : cutM L k = L := by
  unfold cutM
  rw [List.filter_eq_self]
  intro p hp
  simpa using lookL_none_mem h p hp
theorem cutM_some {k : α} : ∀ {L : List (α × β)} {j : Nat}, (L.map (·.1)).Nodup → L[j]?.map (·.1) = some k → cutM L k = L.eraseIdx j
  | [], j, _, h => by simp at h
  | p :: L, 0, hn, h => by
    simp only [List.map_cons, List.nodup_cons] at hn
    simp at h
    subst h
    have : cutM L p.1 = L := by
      unfold cutM
      rw [List.filter_eq_self]
      intro q hq
      simp only [decide_eq_true_eq]
      exact fun e => hn.1 (e ▸ List.mem_map_of_mem hq)
    simp [cutM] at this ⊢
    exact this
  | p :: L, j + 1, hn, h => by
    simp only [List.map_cons, List.nodup_cons] at hn
    have h' : L[j]?.map (·.1) = some k := by simpa using h
    have hne : p.1 ≠ k := fun e => hn.1 (by
      cases hq : L[j]? with
      | none => rw [hq] at h'; cases h'
      | some q => rw [hq] at h'; simp at h'; rw [e, ← h']; exact List.mem_map_of_mem (List.mem_of_getElem? hq))
    have := cutM_some hn.2 h'
    unfold cutM at this ⊢
    rw [List.filter_cons_of_pos (by simpa using hne), this]
    rfl
theorem map_erase {γ δ : Type} (f : γ → δ) : ∀ (l : List γ) (j : Nat), (l.eraseIdx j).map f = (l.map f).eraseIdx j
  | [], _ => rfl
  | _ :: _, 0 => rfl
  | a :: l, j + 1 => by simp [map_erase f l j]
theorem MapIs.erase {es : Array MapEntry} {clock : Nat} (h : MapIs ke ve L es clock) {k : α} {j : Nat} (h1 : L[j]?.map (·.1) = some k) : MapIs ke ve (cutM L k) (es.eraseIdxIfInBounds j) clock := by
  refine ⟨MapKept.stamped_erase h.st j, ?_⟩
  rw [cutM_some h.nodup h1]
  have hj : j < es.size := by
    rw [h.len]
    cases hq : L[j]? with
    | none => rw [hq] at h1; cases h1
    | some q => exact (List.getElem?_eq_some_iff.1 hq).1
  unfold Array.eraseIdxIfInBounds
  rw [dif_pos hj]
  rw [Array.toList_eraseIdx, map_erase, h.eq, map_erase]

/-! finding a map in the list -/
class MapAt (g : Nat) (l : List Assn) {α β : outParam Type} (ke : outParam (α → Value)) (ve : outParam (β → Value)) (L : outParam (List (α × β))) : Prop where
  find : ∀ h, Has l h → ∃ es clock, h g = some (.map es clock) ∧ MapIs ke ve L es clock
instance {α β : Type} (ke : α → Value) (ve : β → Value) (g : Nat) (L : List (α × β)) (l : List Assn) : MapAt g (mpA ke ve g L :: l) ke ve L := ⟨fun _ ⟨_, _, _, a, _, ⟨es, c, e1, e2⟩, _⟩ => ⟨es, c, a.p _ _ e1, e2⟩⟩
instance {α β : Type} (ke : α → Value) (ve : β → Value) (r g : Nat) (L left : List (α × β)) (l : List Assn) : MapAt g (rgA ke ve r g L left :: l) ke ve L := ⟨fun _ ⟨_, _, _, a, _, ⟨es, c, _, _, _, e1, e2, _⟩, _⟩ => ⟨es, c, a.p _ _ e1, e2⟩⟩
instance {α β : Type} (ke : α → Value) (ve : β → Value) (g : Nat) (L : List (α × β)) (k : α) (b : Nat) (l : List Assn) : MapAt g (msA ke ve g L k b :: l) ke ve L := ⟨fun _ ⟨_, _, _, a, _, ⟨es, c, e1, e2, _⟩, _⟩ => ⟨es, c, a.p _ _ e1, e2⟩⟩
instance {α β : Type} (ke : α → Value) (ve : β → Value) (g : Nat) (L : List (α × β)) (A : Assn) (l : List Assn) [k : MapAt g l ke ve L] : MapAt g (A :: l) ke ve L := ⟨fun _ H => k.find _ H.tail⟩
class TakeM (g : Nat) (l : List Assn) {α β : outParam Type} (ke : outParam (α → Value)) (ve : outParam (β → Value)) (L : outParam (List (α × β))) (r : outParam (List Assn)) : Prop where
  take : ∀ h, Has l h → Has (mpA ke ve g L :: r) h
instance {α β : Type} (ke : α → Value) (ve : β → Value) (g : Nat) (L : List (α × β)) (l : List Assn) : TakeM g (mpA ke ve g L :: l) ke ve L l := ⟨fun _ H => H⟩
instance {α β : Type} (ke : α → Value) (ve : β → Value) (r g : Nat) (L left : List (α × β)) (l : List Assn) : TakeM g (rgA ke ve r g L left :: l) ke ve L l := ⟨fun _ H => Has.weaken (fun _ ⟨es, c, _, _, _, e1, e2, _⟩ => ⟨es, c, e1, e2⟩) H⟩
instance {α β : Type} (ke : α → Value) (ve : β → Value) (g : Nat) (L : List (α × β)) (A : Assn) (l r : List Assn) [k : TakeM g l ke ve L r] : TakeM g (A :: l) ke ve L (A :: r) := ⟨fun _ ⟨h1, h2, d, a, b, e, H⟩ => Has.swap ⟨h1, h2, d, a, b, e, k.take _ H⟩⟩
instance {α β : Type} (ke : α → Value) (ve : β → Value) (r g : Nat) (L left : List (α × β)) (p : α × β) (l : List Assn) : MapAt g (reA ke ve r g L left p :: l) ke ve L := ⟨fun _ ⟨_, _, _, a, _, ⟨es, c, _, _, _, e1, e2, _⟩, _⟩ => ⟨es, c, a.p _ _ e1, e2⟩⟩
theorem re_rg {α β : Type} {ke : α → Value} {ve : β → Value} {r g : Nat} {L left : List (α × β)} {p : α × β} (h : Piece) : reA ke ve r g L left p h → rgA ke ve r g L left h := fun ⟨es, c, seen, e, h1, h2, h3, h4, h6, _⟩ => ⟨es, c, _, c, h1, h2, h3, h4, Nat.le_refl _, h6⟩
instance {α β : Type} (ke : α → Value) (ve : β → Value) (r g : Nat) (L left : List (α × β)) (p : α × β) (l : List Assn) : TakeA (rgA ke ve r g L left) (reA ke ve r g L left p :: l) l := ⟨fun _ H => Has.weaken re_rg H⟩
instance {α β : Type} (ke : α → Value) (ve : β → Value) (r g : Nat) (L left : List (α × β)) (p : α × β) (l : List Assn) : TakeA (mpA ke ve g L) (reA ke ve r g L left p :: l) l := ⟨fun _ H => Has.weaken (fun _ ⟨es, c, _, _, _, e1, e2, _⟩ => ⟨es, c, e1, e2⟩) H⟩
instance {α β : Type} (ke : α → Value) (ve : β → Value) (r g : Nat) (L left : List (α × β)) (p : α × β) (l : List Assn) : TakeM g (reA ke ve r g L left p :: l) ke ve L l := ⟨fun _ H => Has.weaken (fun _ ⟨es, c, _, _, _, e1, e2, _⟩ => ⟨es, c, e1, e2⟩) H⟩
/-- Block r is an iterator with an entry at hand. -/
class EntAt (r : Nat) (l : List Assn) {α β : outParam Type} (ke : outParam (α → Value)) (ve : outParam (β → Value)) (p : outParam (α × β)) : Prop where
  find : ∀ h, Has l h → ∃ g L left, ∃ h1, Piece.le h1 h ∧ reA ke ve r g L left p h1
instance {α β : Type} (ke : α → Value) (ve : β → Value) (r g : Nat) (L left : List (α × β)) (p : α × β) (l : List Assn) : EntAt r (reA ke ve r g L left p :: l) ke ve p := ⟨fun _ ⟨h1, _, _, a, _, e, _⟩ => ⟨g, L, left, h1, a, e⟩⟩
instance {α β : Type} (ke : α → Value) (ve : β → Value) (r : Nat) (p : α × β) (A : Assn) (l : List Assn) [k : EntAt r l ke ve p] : EntAt r (A :: l) ke ve p := ⟨fun h H => by
  obtain ⟨h1, h2, d, a, b, e, H2⟩ := H
  obtain ⟨g, L, left, h3, hle, e3⟩ := k.find _ H2
  exact ⟨g, L, left, h3, hle.le_trans b, e3⟩⟩
/-- Ranged over no more. -/
instance {α β : Type} (ke : α → Value) (ve : β → Value) (r g : Nat) (L left : List (α × β)) (l : List Assn) : TakeA (mpA ke ve g L) (rgA ke ve r g L left :: l) l := ⟨fun _ H => Has.weaken (fun _ ⟨es, c, _, _, _, e1, e2, _⟩ => ⟨es, c, e1, e2⟩) H⟩

theorem Own.mapAt {w : World} {α β : Type} {ke : α → Value} {ve : β → Value} {g : Nat} {L : List (α × β)} (H : Own B w l) [k : MapAt g l ke ve L] : ∃ es clock, w.heap[g]? = some (.map es clock) ∧ MapIs ke ve L es clock := by
  obtain ⟨h, _, hl, e⟩ := H.has
  obtain ⟨es, c, e1, e2⟩ := k.find _ e
  exact ⟨es, c, hl.p _ _ e1, e2⟩
theorem Own.takeM {w : World} {α β : Type} {ke : α → Value} {ve : β → Value} {g : Nat} {L : List (α × β)} (H : Own B w l) [k : TakeM g l ke ve L r] : Own B w (mpA ke ve g L :: r) := H.map k.take
theorem Own.mapHead {w : World} (H : Own B w (mpA ke ve g L :: l)) : ∃ es clock, w.heap[g]? = some (.map es clock) ∧ MapIs ke ve L es clock := H.mapAt
theorem kept_setObj (w : World) (g : Nat) (o : Obj) : Kept [g] w { w with heap := w.heap.setIfInBounds g o } := by
  refine ⟨rfl, rfl, rfl, by simp, fun k hk hn => ?_⟩
  show (w.heap.setIfInBounds g o)[k]? = _
  rw [Array.getElem?_setIfInBounds, if_neg (fun e => hn (by simp [e]))]
theorem Own.setMap {w : World} {A A' : Assn} (H : Own B w (A :: l)) {o : Obj} (hA : ∀ h, A h → ∃ o', h g = some o') (hA' : ∀ h h1 : Piece, A h1 → h g = some o → (∀ b o', h1 b = some o' → b ≠ g → h b = some o') → A' h) : Own B { w with heap := w.heap.setIfInBounds g o } (A' :: l) := by
  have hb : ∃ o', w.heap[g]? = some o' := by
    obtain ⟨h, _, hl, h1, _, _, a1, _, hA1, _⟩ := H.has
    obtain ⟨o', e⟩ := hA _ hA1
    exact ⟨o', hl.p _ _ (a1.p _ _ e)⟩
  obtain ⟨o', hb⟩ := hb
  have hlt : g < w.heap.size := (Array.getElem?_eq_some_iff.1 hb).1
  refine Own.kept (fp := [g]) H (kept_setObj w g o) (fun h e g' hg => by simp at hg; subst hg; exact hA _ e) (fun h1 h hA1 _ e1 e2 => hA' h h1 hA1 ?_ fun b o' hb hne => e2 b o' hb (by simpa using hne))
  have := e1 g (.inl (by simp))
  rw [this]
  show (w.heap.setIfInBounds g o)[g]? = _
  rw [Array.getElem?_setIfInBounds, if_pos rfl, if_pos hlt]

theorem mapOk_sub {t : TypeId} {z : Value} (M : MapOk P t ke z) (w : World) (k : α) (e : Bool) : ∃ kt et, P.underlying t = some (.map kt et) ∧ (Instr.checkKey e 10000 kt (ke k)).run P w = .ok () w ∧ (zeroValue et).run P w = .ok z w ∧ ∀ (es : List MapEntry) (L : List (α × β)), es.map (fun e => (e.key, e.val)) = L.map (fun p => (ke p.1, ve p.2)) →
    (lookM L k = none ∧ (Instr.findKey kt (ke k) es).run P w = .ok none w) ∨ ∃ v j, lookM L k = some v ∧ (Instr.findKey kt (ke k) es).run P w = .ok (some (j, ve v)) w ∧ L[j]?.map (·.1) = some k ∧ ∀ (j' : Nat), j' < j → L[j']?.map (·.1) ≠ some k := by
  obtain ⟨kt, et, dk, h1, h2, h3, h4⟩ := M.ex
  refine ⟨kt, et, h1, MapKept.run_checkKey h2 (h3 k) e 9999, ?_, fun es L he => ?_⟩
  · cases hi : P.info? et with
    | none => rw [hi] at h4; cases h4
    | some i => rw [hi] at h4; simp at h4; simp [zeroValue, typeInfo, hi, h4]
  · rcases findNow_look (ve := ve) h3 M.inj k es L 0 he with ⟨a1, a2⟩ | ⟨v, j, a1, a2, a3, a4⟩
    · exact .inl ⟨a1, MapKept.run_findKey h2 a2⟩
    · rw [Nat.zero_add] at a2
      exact .inr ⟨v, j, a1, MapKept.run_findKey h2 a2, a3, a4⟩

/-! the rules -/
theorem Ef.makeMap {t : TypeId} (α β : Type) (ke : α → Value) (ve : β → Value) (h : ∀ g, K (.map (some g)) (mpA ke ve g ([] : List (α × β)) :: l)) : Ef P B n ⟨d, .makeMap t none, ty, pos, af, gd⟩ f l K := ⟨fun w next Q ho hk => by
  have hr : (Instr.makeMap t none).run P w = .ok (.map (some w.heap.size)) (w.alloc (.map #[] 0)) := by simp [Instr.makeMap]
  unfold Oper.wp execOp
  simp only [eval_act', Option.map_none, Sem.run_bind, hr, Sem.run_pure, Result.andThen_ok]
  refine hk _ _ _ (h _) (Own.fresh ho ((Kept.refl _ _).alloc _) fun hh e => ⟨#[], 0, ?_, ⟨MapKept.stamped_empty 0, rfl⟩⟩)
  rw [e _ (Nat.le_refl _)]
  exact heap_alloc_new w _⟩
theorem run_lookup {t : TypeId} {z : Value} (M : MapOk P t ke z) (w : World) (k : α) (c : Bool) {es : Array MapEntry} {clock : Nat} (hb : w.heap[g]? = some (.map es clock)) (hm : MapIs ke ve L es clock) :
    (Instr.lookup t (.map (some g)) (ke k) c).run P w = .ok (if c then .tuple #[(match lookM L k with | some v => ve v | none => z), .bool (lookM L k).isSome] else (match lookM L k with | some v => ve v | none => z)) w := by
  obtain ⟨kt, et, h1, h2, h3, h4⟩ := mapOk_sub (ve := ve) M w k es.isEmpty
  rcases h4 es.toList L hm.eq with ⟨a1, a2⟩ | ⟨v, j, a1, a2, _, _⟩
  · rw [a1]
    simp [Instr.lookup, run_underlying h1, MapKept.run_getObj_map hb, h2, a2, h3]
  · rw [a1]
    simp [Instr.lookup, run_underlying h1, MapKept.run_getObj_map hb, h2, a2]
theorem Qt.look2S {t : TypeId} {x y : Operand} {z : Value} (M : MapOk P t ke z) (hx : ev n f x = some (.map (some g))) (k : α) (hy : ev n f y = some (ke k)) [kk : MapAt g S ke ve L] {v : β} (hv : lookM L k = some v) : Qt P B n S ⟨d, .lookup t x y true, ty, pos, af, gd⟩ f (.tuple #[ve v, .bool true]) := ⟨fun w ho => by
  obtain ⟨es, c, hb, hm⟩ := ho.mapAt (g := g)
  have := run_lookup M w k true hb hm
  simp only [hv, if_true, Option.isSome_some] at this
  simp [execOp, evu_eq hx, evu_eq hy, this]⟩
theorem Qt.look2N {t : TypeId} {x y : Operand} {z : Value} (M : MapOk P t ke z) (hx : ev n f x = some (.map (some g))) (k : α) (hy : ev n f y = some (ke k)) [kk : MapAt g S ke ve L] (hv : lookM L k = none) : Qt P B n S ⟨d, .lookup t x y true, ty, pos, af, gd⟩ f (.tuple #[z, .bool false]) := ⟨fun w ho => by
  obtain ⟨es, c, hb, hm⟩ := ho.mapAt (g := g)
  have := run_lookup M w k true hb hm
  simp only [hv, if_true, Option.isSome_none] at this
  simp [execOp, evu_eq hx, evu_eq hy, this]⟩
theorem Qt.lenMap {t kt et : TypeId} {x : Operand} (ht : P.underlying t = some (.map kt et)) (hx : ev n f x = some (.map (some g))) [kk : MapAt g S ke ve L] : Qt P B n S ⟨d, .call ⟨.builtin .len, #[x], #[t]⟩, ty, pos, af, gd⟩ f (.int .i64 L.length) := ⟨fun w ho => by
  obtain ⟨es, c, hb, hm⟩ := ho.mapAt (g := g)
  simp [execOp, resolve, invoke, builtin, evu_eq hx, Builtin.len_, run_underlying ht, MapKept.run_getObj_map hb, hm.len, goInt]⟩

theorem run_mapUpdate {t : TypeId} {z : Value} (M : MapOk P t ke z) (w : World) (k : α) (v : β) {es : Array MapEntry} {clock : Nat} (hb : w.heap[g]? = some (.map es clock)) (hm : MapIs ke ve L es clock) :
    ∃ es' c', (Instr.mapUpdate t (.map (some g)) (ke k) (ve v)).run P w = .ok () { w with heap := w.heap.setIfInBounds g (.map es' c') } ∧ MapIs ke ve (putM L k v) es' c' := by
  obtain ⟨kt, et, h1, h2, h3, h4⟩ := mapOk_sub (ve := ve) M w k false
  obtain ⟨kt', et', dk, u1, u2, u3, u4⟩ := M.ex
  rcases h4 es.toList L hm.eq with ⟨a1, a2⟩ | ⟨v0, j, a1, a2, a3, a4⟩
  · refine ⟨_, _, ?_, hm.push M.inj a1⟩
    simp [Instr.mapUpdate, run_underlying h1, MapKept.run_getObj_map hb, h2, a2, MapKept.run_setObj_map _ hb]
  · have hj : ∃ e, es[j]? = some e ∧ e.key = ke k := by
      cases hq : es[j]? with
      | none =>
        cases hp : L[j]? with
        | none => rw [hp] at a3; cases a3
        | some p =>
          have := (List.getElem?_eq_some_iff.1 hp).1
          have := hm.len
          have := Array.getElem?_eq_none_iff.1 hq
          omega
      | some e =>
        obtain ⟨p, hp, e1, _⟩ := hm.at_ hq
        rw [hp] at a3; simp at a3
        exact ⟨e, rfl, by rw [e1, a3]⟩
    obtain ⟨e, hq, hek⟩ := hj
    refine ⟨_, _, ?_, hm.modify a3 a4⟩
    simp [Instr.mapUpdate, run_underlying h1, MapKept.run_getObj_map hb, h2, a2, hq, hek, MapKept.run_keyThatStays (u3 k), MapKept.run_setObj_map _ hb]
theorem Ef.mapUpdate {t : TypeId} {x y v : Operand} {z : Value} (M : MapOk P t ke z) (hx : ev n f x = some (.map (some g))) (k : α) (hy : ev n f y = some (ke k)) (b : β) (hv : ev n f v = some (ve b)) [kk : TakeM g l ke ve L r] (h : K (.tuple #[]) (mpA ke ve g (putM L k b) :: r)) : Ef P B n ⟨d, .mapUpdate t x y v, ty, pos, af, gd⟩ f l K := ⟨fun w next Q ho hk => by
  have ho2 := ho.takeM (k := kk)
  obtain ⟨es, c, hb, hm⟩ := ho2.mapHead
  obtain ⟨es', c', hr, hm'⟩ := run_mapUpdate M w k b hb hm
  unfold Oper.wp execOp
  simp only [eval_act', evu_eq hx, evu_eq hy, evu_eq hv, Sem.run_bind, hr, Sem.run_pure, Result.andThen_ok]
  exact hk _ _ _ h (ho2.setMap (fun h ⟨es, c, e, _⟩ => ⟨_, e⟩) fun h h1 _ e _ => ⟨es', c', e, hm'⟩)⟩
theorem Ef.delete {t t2 : TypeId} {x y : Operand} {z : Value} {ty2 : TypeId} (M : MapOk P t ke z) (hx : ev n f x = some (.map (some g))) (k : α) (hy : ev n f y = some (ke k)) [kk : TakeM g l ke ve L r] (h : K (.tuple #[]) (mpA ke ve g (cutM L k) :: r)) : Ef P B n ⟨d, .call ⟨.builtin .delete, #[x, y], #[t, t2]⟩, ty2, pos, af, gd⟩ f l K := ⟨fun w next Q ho hk => by
  have ho2 := ho.takeM (k := kk)
  obtain ⟨es, c, hb, hm⟩ := ho2.mapHead
  obtain ⟨kt, et, h1, h2, h3, h4⟩ := mapOk_sub (ve := ve) M w k es.isEmpty
  have key : ∃ es', (Builtin.delete_ #[t, t2] ty2 #[.map (some g), ke k]).run P w = .ok (.tuple #[]) { w with heap := w.heap.setIfInBounds g (.map es' c) } ∧ MapIs ke ve (cutM L k) es' c := by
    rcases h4 es.toList L hm.eq with ⟨a1, a2⟩ | ⟨v0, j, a1, a2, a3, a4⟩
    · refine ⟨es, ?_, by rw [cutM_none a1]; exact hm⟩
      simp [Builtin.delete_, run_underlying h1, MapKept.run_getObj_map hb, h2, a2, MapKept.run_setObj_map _ hb]
    · refine ⟨_, ?_, hm.erase a3⟩
      simp [Builtin.delete_, run_underlying h1, MapKept.run_getObj_map hb, h2, a2, MapKept.run_setObj_map _ hb]
  obtain ⟨es', hr, hm'⟩ := key
  unfold Oper.wp execOp
  simp only [eval_act', resolve, invoke, builtin, Sem.run_bind, Sem.run_pure, Result.andThen_ok, List.map_toArray, List.map_cons, List.map_nil, evu_eq hx, evu_eq hy, hr]
  exact hk _ _ _ h (ho2.setMap (fun h ⟨es, c, e, _⟩ => ⟨_, e⟩) fun h h1 _ e _ => ⟨es', c, e, hm'⟩)⟩
end
end Go.Proofs.Ytefognjcognknaa

/- What a tree of periods holds: plain laws. Conditions: that the tree is right. -/
set_option linter.unusedSimpArgs false
set_option linter.unusedVariables false
namespace Go.Proofs.Ytefognjcognknaa
open Go.RowKit
abbrev PE := Int × (Nat × Nat)
abbrev minI : Int := -9223372036854775808
def kvL (e : PE) : KV := (keyS (forkN e.2.1 e.2.2) e.2.1 e.1, e.1)
def kvU (e : PE) : KV := (keyS (forkN e.2.1 e.2.2) e.2.2 e.1, e.1)
def peOk (e : PE) : Prop := minI ≤ e.1 ∧ e.1 < 9223372036854775808 ∧ e.2.1 < e.2.2 ∧ e.2.2 ≤ 1099511627776
structure RiOk (M : List PE) (L U : List KV) (N : Nat) : Prop where
  nd : (M.map (·.1)).Nodup
  ok : ∀ e ∈ M, peOk e
  upL : Up L
  upU : Up U
  lenL : L.length ≤ N
  lenU : U.length ≤ N
  lenM : M.length ≤ N
  inL : ∀ p, p ∈ L ↔ ∃ e ∈ M, p = kvL e
  inU : ∀ p, p ∈ U ↔ ∃ e ∈ M, p = kvU e
theorem RiOk.nil : RiOk [] [] [] 0 := ⟨List.Pairwise.nil, (fun _ h => nomatch h), List.Pairwise.nil, List.Pairwise.nil, Nat.le_refl _, Nat.le_refl _, Nat.le_refl _, (fun p => by simp), (fun p => by simp)⟩
theorem fork_le {e : PE} (h : peOk e) : forkN e.2.1 e.2.2 < 2 ^ 64 ∧ e.2.1 < 2 ^ 64 ∧ e.2.2 < 2 ^ 64 := by
  obtain ⟨_, _, h1, h2⟩ := h
  have := fork_in h1
  omega
theorem kvL_inj {e e' : PE} (h : peOk e) (h' : peOk e') (hk : (kvL e).1 = (kvL e').1) : e.1 = e'.1 := by
  obtain ⟨a1, a2, _⟩ := fork_le h
  obtain ⟨b1, b2, _⟩ := fork_le h'
  exact (keyS_inj a1 a2 b1 b2 h.1 h.2.1 h'.1 h'.2.1 hk).2.2
theorem kvU_inj {e e' : PE} (h : peOk e) (h' : peOk e') (hk : (kvU e).1 = (kvU e').1) : e.1 = e'.1 := by
  obtain ⟨a1, _, a2⟩ := fork_le h
  obtain ⟨b1, _, b2⟩ := fork_le h'
  exact (keyS_inj a1 a2 b1 b2 h.1 h.2.1 h'.1 h'.2.1 hk).2.2
theorem nd_eq : ∀ {M : List PE}, (M.map (·.1)).Nodup → ∀ {e e' : PE}, e ∈ M → e' ∈ M → e.1 = e'.1 → e = e'
  | [], _, _, _, h, _, _ => nomatch h
  | x :: M, h, e, e', h1, h2, he => by
    have h3 := List.pairwise_cons.1 h
    rcases List.mem_cons.1 h1 with h4 | h4
    · rcases List.mem_cons.1 h2 with h5 | h5
      · rw [h4, h5]
      · rw [h4] at he; exact absurd he (h3.1 _ (List.mem_map_of_mem h5))
    · rcases List.mem_cons.1 h2 with h5 | h5
      · rw [h5] at he; exact absurd he.symm (h3.1 _ (List.mem_map_of_mem h4))
      · exact nd_eq h3.2 h4 h5 he
theorem RiOk.add {M : List PE} {L U : List KV} {N : Nat} (h : RiOk M L U N) {e : PE} (he : peOk e) (hn : lookM M e.1 = none) : RiOk (putM M e.1 e.2) (putL (kvL e).1 e.1 L) (putL (kvU e).1 e.1 U) (N + 1) := by
  have hne := lookL_none_mem hn
  rw [putM_new hn]
  have hmem : ∀ x, x ∈ M ++ [(e.1, e.2)] ↔ x ∈ M ∨ x = e := fun x => by simp
  refine ⟨?_, ?_, putL_up h.upL, putL_up h.upU, Nat.le_trans (putL_le h.upL) (by have := h.lenL; omega), Nat.le_trans (putL_le h.upU) (by have := h.lenU; omega), by have := h.lenM; simp; omega, fun p => ?_, fun p => ?_⟩
  · rw [List.map_append]
    refine List.pairwise_append.2 ⟨h.nd, by simp, fun a ha b hb => ?_⟩
    obtain rfl : b = e.1 := by simpa using hb
    obtain ⟨x, hx, rfl⟩ := List.mem_map.1 ha
    exact hne x hx
  · intro x hx
    rcases (hmem x).1 hx with hx | rfl
    · exact h.ok x hx
    · exact he
  · rw [putL_iff h.upL]
    constructor
    · rintro (rfl | ⟨h1, _⟩)
      · exact ⟨e, (hmem e).2 (.inr rfl), rfl⟩
      · obtain ⟨x, hx, rfl⟩ := (h.inL p).1 h1
        exact ⟨x, (hmem x).2 (.inl hx), rfl⟩
    · rintro ⟨x, hx, rfl⟩
      rcases (hmem x).1 hx with hx | rfl
      · exact .inr ⟨(h.inL _).2 ⟨x, hx, rfl⟩, fun hk => hne x hx (kvL_inj (h.ok x hx) he hk)⟩
      · exact .inl rfl
  · rw [putL_iff h.upU]
    constructor
    · rintro (rfl | ⟨h1, _⟩)
      · exact ⟨e, (hmem e).2 (.inr rfl), rfl⟩
      · obtain ⟨x, hx, rfl⟩ := (h.inU p).1 h1
        exact ⟨x, (hmem x).2 (.inl hx), rfl⟩
    · rintro ⟨x, hx, rfl⟩
      rcases (hmem x).1 hx with hx | rfl
      · exact .inr ⟨(h.inU _).2 ⟨x, hx, rfl⟩, fun hk => hne x hx (kvU_inj (h.ok x hx) he hk)⟩
      · exact .inl rfl
theorem RiOk.cut {M : List PE} {L U : List KV} {N : Nat} (h : RiOk M L U N) {e : PE} (he : e ∈ M) : RiOk (cutM M e.1) (cutL (kvL e).1 L) (cutL (kvU e).1 U) N := by
  have hmem : ∀ x, x ∈ cutM M e.1 ↔ x ∈ M ∧ x.1 ≠ e.1 := fun x => by simp [cutM, List.mem_filter]
  have hsub : (cutM M e.1).Sublist M := List.filter_sublist
  refine ⟨h.nd.sublist (hsub.map _), fun x hx => h.ok x ((hmem x).1 hx).1, cutL_up h.upL, cutL_up h.upU, Nat.le_trans cutL_le h.lenL, Nat.le_trans cutL_le h.lenU, Nat.le_trans hsub.length_le h.lenM, fun p => ?_, fun p => ?_⟩
  · have : p ∈ cutL (kvL e).1 L ↔ p ∈ L ∧ p.1 ≠ (kvL e).1 := by simp [cutL, List.mem_filter]
    rw [this]
    constructor
    · rintro ⟨h1, h2⟩
      obtain ⟨x, hx, rfl⟩ := (h.inL p).1 h1
      exact ⟨x, (hmem x).2 ⟨hx, fun hk => h2 (by rw [nd_eq h.nd hx he hk])⟩, rfl⟩
    · rintro ⟨x, hx, rfl⟩
      obtain ⟨hx1, hx2⟩ := (hmem x).1 hx
      exact ⟨(h.inL _).2 ⟨x, hx1, rfl⟩, fun hk => hx2 (kvL_inj (h.ok x hx1) (h.ok e he) hk)⟩
  · have : p ∈ cutL (kvU e).1 U ↔ p ∈ U ∧ p.1 ≠ (kvU e).1 := by simp [cutL, List.mem_filter]
    rw [this]
    constructor
    · rintro ⟨h1, h2⟩
      obtain ⟨x, hx, rfl⟩ := (h.inU p).1 h1
      exact ⟨x, (hmem x).2 ⟨hx, fun hk => h2 (by rw [nd_eq h.nd hx he hk])⟩, rfl⟩
    · rintro ⟨x, hx, rfl⟩
      obtain ⟨hx1, hx2⟩ := (hmem x).1 hx
      exact ⟨(h.inU _).2 ⟨x, hx1, rfl⟩, fun hk => hx2 (kvU_inj (h.ok x hx1) (h.ok e he) hk)⟩
/-! what is found -/
def pieceL (U : List KV) (a : Nat) (z : Int) : List Int := (rgL (keyS z.toNat (a + 1) minI) (keyS (z.toNat + 1) 0 minI) U).map (·.2)
def pieceM (L : List KV) (a b : Nat) : List Int := (rgL (keyS a 0 minI) (keyS b 0 minI) L).map (·.2)
def pieceR (L : List KV) (b : Nat) (z : Int) : List Int := (rgL (keyS z.toNat 0 minI) (keyS z.toNat b minI) L).map (·.2)
def foundZ (L U : List KV) (a b : Nat) : List Int := (leftZ a).flatMap (pieceL U a) ++ pieceM L a b ++ (rightZ b).flatMap (pieceR L b)
/-- The numbers of the periods that overlap one, rising. -/
def ovZ (M : List PE) (a b : Nat) : List Int := allZ ((M.filter fun e => decide (e.2.1 < b ∧ a < e.2.2)).map (·.1))
theorem in_range {n t n1 t1 n2 t2 : Nat} {id : Int} (h1 : n < 2 ^ 64) (h2 : t < 2 ^ 64) (h3 : n1 < 2 ^ 64) (h4 : t1 < 2 ^ 64) (h5 : n2 < 2 ^ 64) (h6 : t2 < 2 ^ 64) (h7 : minI ≤ id) (h8 : id < 9223372036854775808) :
    inR (keyS n1 t1 minI) (keyS n2 t2 minI) (keyS n t id, id) = true ↔ (n1 < n ∨ (n1 = n ∧ t1 ≤ t)) ∧ (n < n2 ∨ (n = n2 ∧ t < t2)) := by
  have a := keyS_less (n := n) (t := t) (id := id) (n' := n1) (t' := t1) (id' := minI) h1 h2 h3 h4 h7 h8 (Int.le_refl _) (by decide)
  have b := keyS_less (n := n) (t := t) (id := id) (n' := n2) (t' := t2) (id' := minI) h1 h2 h5 h6 h7 h8 (Int.le_refl _) (by decide)
  unfold inR
  simp only [Bool.and_eq_true, Bool.not_eq_true', Bool.or_eq_true, decide_eq_true_eq, keyS_ne, false_or]
  rw [b, ← Bool.not_eq_true, a]
  unfold minI at *
  omega
theorem mem_piece {M : List PE} {S : List KV} {kv : PE → KV} (hS : ∀ p, p ∈ S ↔ ∃ e ∈ M, p = kv e) (hkv : ∀ e, (kv e).2 = e.1) {f t : Str} {Q : PE → Prop} (hQ : ∀ e ∈ M, inR f t (kv e) = true ↔ Q e) (x : Int) : x ∈ (rgL f t S).map (·.2) ↔ ∃ e ∈ M, e.1 = x ∧ Q e := by
  rw [List.mem_map]
  constructor
  · rintro ⟨p, hp, rfl⟩
    obtain ⟨h1, h2⟩ := List.mem_filter.1 hp
    obtain ⟨e, he, rfl⟩ := (hS p).1 h1
    exact ⟨e, he, (hkv e).symm, (hQ e he).1 h2⟩
  · rintro ⟨e, he, rfl, hq⟩
    exact ⟨kv e, List.mem_filter.2 ⟨(hS _).2 ⟨e, he, rfl⟩, (hQ e he).2 hq⟩, hkv e⟩
theorem nd_piece {M : List PE} (hnd : (M.map (·.1)).Nodup) {S : List KV} {kv : PE → KV} (hS : ∀ p, p ∈ S ↔ ∃ e ∈ M, p = kv e) (hkv : ∀ e, (kv e).2 = e.1) (hu : Up S) {f t : Str} : ((rgL f t S).map (·.2)).Nodup := by
  have h1 : Up (rgL f t S) := hu.sublist List.filter_sublist
  refine List.pairwise_map.2 ((List.Pairwise.and_mem.1 h1).imp ?_)
  rintro p q ⟨hp, hq, hlt⟩ e
  obtain ⟨x, hx, rfl⟩ := (hS p).1 (List.mem_filter.1 hp).1
  obtain ⟨y, hy, rfl⟩ := (hS q).1 (List.mem_filter.1 hq).1
  rw [hkv, hkv] at e
  obtain rfl := nd_eq hnd hx hy e
  rw [sl_irrefl] at hlt
  cases hlt
section
variable {M : List PE} {L U : List KV} {N a b : Nat}
theorem mem_left (h : RiOk M L U N) (ha : a < 2 ^ 41) {z : Int} {m : Nat} (hz : z = m) (hm : m < 2 ^ 41) (x : Int) : x ∈ pieceL U a z ↔ ∃ e ∈ M, e.1 = x ∧ (forkN e.2.1 e.2.2 = m ∧ a < e.2.2) := by
  subst hz
  refine mem_piece h.inU (fun _ => rfl) (fun e he => ?_) x
  obtain ⟨b1, _, b3⟩ := fork_le (h.ok e he)
  have := in_range (n1 := m) (t1 := a + 1) (n2 := m + 1) (t2 := 0) b1 b3 (by omega) (by omega) (by omega) (by omega) (h.ok e he).1 (h.ok e he).2.1
  rw [Int.toNat_natCast]
  show inR _ _ (kvU e) = true ↔ _
  unfold kvU
  rw [this]; omega
theorem mem_mid (h : RiOk M L U N) (ha : a < 2 ^ 41) (hb : b < 2 ^ 41) (x : Int) : x ∈ pieceM L a b ↔ ∃ e ∈ M, e.1 = x ∧ (a ≤ forkN e.2.1 e.2.2 ∧ forkN e.2.1 e.2.2 < b) := by
  refine mem_piece h.inL (fun _ => rfl) (fun e he => ?_) x
  obtain ⟨b1, b2, _⟩ := fork_le (h.ok e he)
  have := in_range (n1 := a) (t1 := 0) (n2 := b) (t2 := 0) b1 b2 (by omega) (by omega) (by omega) (by omega) (h.ok e he).1 (h.ok e he).2.1
  unfold kvL
  rw [this]; omega
theorem mem_right (h : RiOk M L U N) (hb : b < 2 ^ 41) {z : Int} {m : Nat} (hz : z = m) (hm : m < 2 ^ 41) (x : Int) : x ∈ pieceR L b z ↔ ∃ e ∈ M, e.1 = x ∧ (forkN e.2.1 e.2.2 = m ∧ e.2.1 < b) := by
  subst hz
  refine mem_piece h.inL (fun _ => rfl) (fun e he => ?_) x
  obtain ⟨b1, b2, _⟩ := fork_le (h.ok e he)
  have := in_range (n1 := m) (t1 := 0) (n2 := m) (t2 := b) b1 b2 (by omega) (by omega) (by omega) (by omega) (h.ok e he).1 (h.ok e he).2.1
  rw [Int.toNat_natCast]
  show inR _ _ (kvL e) = true ↔ _
  unfold kvL
  rw [this]; omega
theorem anc_lt {n m : Nat} (hn : n < 2 ^ 40) (h : m ∈ ancN n) : m < 2 ^ 41 := by
  by_cases h0 : n = 0
  · subst h0; simp [ancN] at h
  · rcases (mem_anc h0).1 h with rfl | ⟨k, _, hk, _, hm⟩
    · omega
    · have h1 : n / (2 * 2 ^ k) * (2 * 2 ^ k) ≤ n := Nat.div_mul_le_self _ _
      have h2 : 2 ^ k ≤ 2 ^ 40 := Nat.pow_le_pow_right (by omega) hk
      omega
theorem mem_found (h : RiOk M L U N) (hok : a < b ∧ b ≤ 1099511627776) (x : Int) : x ∈ foundZ L U a b ↔ ∃ e ∈ M, e.1 = x ∧ (e.2.1 < b ∧ a < e.2.2) := by
  unfold foundZ
  rw [List.mem_append, List.mem_append, List.mem_flatMap, List.mem_flatMap, mem_mid h (by omega) (by omega)]
  constructor
  · rintro ((⟨z, hz, hx⟩ | ⟨e, he, hx, hq⟩) | ⟨z, hz, hx⟩)
    · obtain ⟨m, rfl, hm, hlt⟩ := (left_spec a).2.1 z |>.1 hz
      obtain ⟨e, he, hx, hq⟩ := (mem_left h (by omega) rfl (by omega) x).1 hx
      exact ⟨e, he, hx, (overlap_iff (h.ok e he).2.2.1 (h.ok e he).2.2.2 hok.1 hok.2).2 (.inl ⟨by rw [hq.1]; exact hm, by omega, hq.2⟩)⟩
    · exact ⟨e, he, hx, (overlap_iff (h.ok e he).2.2.1 (h.ok e he).2.2.2 hok.1 hok.2).2 (.inr (.inl hq))⟩
    · obtain ⟨m, rfl, hm, hlt⟩ := (right_spec b).2.1 z |>.1 hz
      obtain ⟨e, he, hx, hq⟩ := (mem_right h (by omega) rfl (anc_lt (by omega) hm) x).1 hx
      exact ⟨e, he, hx, (overlap_iff (h.ok e he).2.2.1 (h.ok e he).2.2.2 hok.1 hok.2).2 (.inr (.inr ⟨by rw [hq.1]; exact hm, by omega, hq.2⟩))⟩
  · rintro ⟨e, he, hx, hq⟩
    rcases (overlap_iff (h.ok e he).2.2.1 (h.ok e he).2.2.2 hok.1 hok.2).1 hq with ⟨h1, h2, h3⟩ | h1 | ⟨h1, h2, h3⟩
    · exact .inl (.inl ⟨_, ((left_spec a).2.1 _).2 ⟨_, rfl, h1, h2⟩, (mem_left h (by omega) rfl (by omega) x).2 ⟨e, he, hx, rfl, h3⟩⟩)
    · exact .inl (.inr ⟨e, he, hx, h1⟩)
    · exact .inr ⟨_, ((right_spec b).2.1 _).2 ⟨_, rfl, h1, h2⟩, (mem_right h (by omega) rfl (anc_lt (by omega) h1) x).2 ⟨e, he, hx, rfl, h3⟩⟩
theorem nodup_flat {α β : Type} {f : α → List β} : ∀ {l : List α}, (∀ x ∈ l, (f x).Nodup) → l.Pairwise (fun x y => ∀ v ∈ f x, v ∉ f y) → (l.flatMap f).Nodup
  | [], _, _ => List.Pairwise.nil
  | x :: l, h, hp => by
    have h1 := List.pairwise_cons.1 hp
    rw [List.flatMap_cons]
    refine List.pairwise_append.2 ⟨h x (List.mem_cons_self ..), nodup_flat (fun y hy => h y (List.mem_cons_of_mem _ hy)) h1.2, fun v hv w hw e => ?_⟩
    obtain ⟨y, hy, hw⟩ := List.mem_flatMap.1 hw
    exact h1.1 y hy v hv (e ▸ hw)
theorem nodup_found (h : RiOk M L U N) (hok : a < b ∧ b ≤ 1099511627776) : (foundZ L U a b).Nodup := by
  unfold foundZ
  refine List.pairwise_append.2 ⟨List.pairwise_append.2 ⟨?_, ?_, ?_⟩, ?_, ?_⟩
  · refine nodup_flat (fun z hz => nd_piece h.nd h.inU (fun _ => rfl) h.upU) ((List.Pairwise.and_mem.1 (left_spec a).1).imp ?_)
    rintro z z' ⟨hz, hz', hlt⟩ x hx hx'
    obtain ⟨m, rfl, hm, _⟩ := ((left_spec a).2.1 z).1 hz
    obtain ⟨m', rfl, hm', _⟩ := ((left_spec a).2.1 z').1 hz'
    obtain ⟨e, he, e1, e2, _⟩ := (mem_left h (by omega) rfl (by omega) x).1 hx
    obtain ⟨e', he', e1', e2', _⟩ := (mem_left h (by omega) rfl (by omega) x).1 hx'
    obtain rfl := nd_eq h.nd he he' (by rw [e1, e1'])
    omega
  · exact nd_piece h.nd h.inL (fun _ => rfl) h.upL
  · rintro x hx y hy rfl
    obtain ⟨z, hz, hx⟩ := List.mem_flatMap.1 hx
    obtain ⟨m, rfl, hm, _⟩ := ((left_spec a).2.1 z).1 hz
    obtain ⟨e, he, e1, e2, _⟩ := (mem_left h (by omega) rfl (by omega) x).1 hx
    obtain ⟨e', he', e1', e2', _⟩ := (mem_mid h (by omega) (by omega) x).1 hy
    obtain rfl := nd_eq h.nd he he' (by rw [e1, e1'])
    omega
  · refine nodup_flat (fun z hz => nd_piece h.nd h.inL (fun _ => rfl) h.upL) ((List.Pairwise.and_mem.1 (right_spec b).1).imp ?_)
    rintro z z' ⟨hz, hz', hlt⟩ x hx hx'
    obtain ⟨m, rfl, hm, _⟩ := ((right_spec b).2.1 z).1 hz
    obtain ⟨m', rfl, hm', _⟩ := ((right_spec b).2.1 z').1 hz'
    obtain ⟨e, he, e1, e2, _⟩ := (mem_right h (by omega) rfl (anc_lt (by omega) hm) x).1 hx
    obtain ⟨e', he', e1', e2', _⟩ := (mem_right h (by omega) rfl (anc_lt (by omega) hm') x).1 hx'
    obtain rfl := nd_eq h.nd he he' (by rw [e1, e1'])
    omega
  · rintro x hx y hy rfl
    obtain ⟨z, hz, hy⟩ := List.mem_flatMap.1 hy
    obtain ⟨m, rfl, hm, hml⟩ := ((right_spec b).2.1 z).1 hz
    obtain ⟨e, he, e1, e2, _⟩ := (mem_right h (by omega) rfl (anc_lt (by omega) hm) x).1 hy
    rcases List.mem_append.1 hx with hx | hx
    · obtain ⟨z, hz, hx⟩ := List.mem_flatMap.1 hx
      obtain ⟨m', rfl, hm', hml'⟩ := ((left_spec a).2.1 z).1 hz
      obtain ⟨e', he', e1', e2', _⟩ := (mem_left h (by omega) rfl (by omega) x).1 hx
      obtain rfl := nd_eq h.nd he he' (by rw [e1, e1'])
      omega
    · obtain ⟨e', he', e1', e2', e3'⟩ := (mem_mid h (by omega) (by omega) x).1 hx
      obtain rfl := nd_eq h.nd he he' (by rw [e1, e1'])
      omega
theorem found_ov (h : RiOk M L U N) (hok : a < b ∧ b ≤ 1099511627776) : srtZ (foundZ L U a b) = ovZ M a b := by
  have hnd : ((M.filter fun e => decide (e.2.1 < b ∧ a < e.2.2)).map (·.1)).Nodup := h.nd.sublist (List.filter_sublist.map _)
  obtain ⟨o1, o2, _⟩ := all_spec hnd
  have hperm := List.mergeSort_perm (foundZ L U a b) fun x y => decide (x ≤ y)
  have hs : RiseZ (srtZ (foundZ L U a b)) := by
    have h1 := srt_le (foundZ L U a b)
    have h2 : (srtZ (foundZ L U a b)).Nodup := hperm.nodup_iff.2 (nodup_found h hok)
    exact (List.Pairwise.and h1 h2).imp fun {x y} hxy => by have := hxy.2; have := hxy.1; omega
  refine rise_ext hs o1 fun x => ?_
  show _ ↔ x ∈ allZ _
  rw [hperm.mem_iff, mem_found h hok, o2, List.mem_map]
  constructor
  · rintro ⟨e, he, rfl, hq⟩
    exact ⟨e, List.mem_filter.2 ⟨he, by simpa using hq⟩, rfl⟩
  · rintro ⟨e, he, rfl⟩
    obtain ⟨h1, h2⟩ := List.mem_filter.1 he
    exact ⟨e, h1, rfl, by simpa using h2⟩
end
end Go.Proofs.Ytefognjcognknaa

/- Package ritree: New, Len, Add, Cut. Conditions: that the tree is right; sizes. -/
set_option linter.unusedSimpArgs false
set_option linter.unusedVariables false
namespace Go.Proofs.Ytefognjcognknaa
open Go.RowKit
abbrev pdE (e : Nat × Nat) : Value := pdV e.1 e.2
abbrev riC (gl gu gm : Nat) : List Value := [pV gl, pV gu, .map (some gm)]
abbrev riL (g gl gu gm : Nat) (M : List PE) (L U : List KV) : List Assn := [blk g (riC gl gu gm) 124, btA gl 8 L, btA gu 8 U, mpA iV pdE gm M]
theorem Ri.okM : MapOk Try.prog 122 iV (pdV 0 0) := MapOk.mk3 2 57 (.int .i64) Try.underlying122 Try.underlying2 (fun _ => rfl) (by kernel_rfl) i64_inj
theorem Ri.new (B : Base) : Fn Try.prog B 32 #[] [] (fun u l => ∃ g gl gu gm, u = pV g ∧ l = riL g gl gu gm [] [] []) := by
  refine Fn.enter0 18 Try.func32 rfl rfl (Nat.le_of_ble_eq_true rfl) (fun F => ?_)
  try simp only [List.cons_append, List.nil_append]
  refine T.seq ?_
  refine T.region ?_
  refine LW.q rfl (Qt.assign rfl) ?_
  refine LW.done ?_
  refine T.seq ?_
  refine T.region ?_
  refine LW.e rfl (Ef.call (Bt.newOk B 8 (by omega) (by omega)) Try.func14 rfl rfl rfl ?_)
  rintro _ _ ⟨gl, rfl, rfl⟩
  try simp only [List.cons_append, List.nil_append]
  refine LW.q rfl (Qt.move rfl) ?_
  refine LW.q rfl (Qt.extr rfl rfl) ?_
  refine LW.q rfl (Qt.extr rfl rfl) ?_
  refine LW.q rfl (Qt.assign rfl) ?_
  refine LW.q rfl (Qt.assign rfl) ?_
  refine LW.done ?_
  refine T.seq ?_
  refine T.region ?_
  refine LW.e rfl (Ef.call (Bt.newOk B 8 (by omega) (by omega)) Try.func14 rfl rfl rfl ?_)
  rintro _ _ ⟨gu, rfl, rfl⟩
  try simp only [List.cons_append, List.nil_append]
  refine LW.q rfl (Qt.move rfl) ?_
  refine LW.q rfl (Qt.extr rfl rfl) ?_
  refine LW.q rfl (Qt.extr rfl rfl) ?_
  refine LW.q rfl (Qt.assign rfl) ?_
  refine LW.q rfl (Qt.assign rfl) ?_
  refine LW.done ?_
  refine T.seq ?_
  refine T.region ?_
  refine LW.q rfl (Qt.move rfl) ?_
  refine LW.q rfl (Qt.move rfl) ?_
  refine LW.e rfl (Ef.makeMap Int (Nat × Nat) iV pdE ?_)
  rintro gm
  try simp only [List.cons_append, List.nil_append]
  refine LW.q rfl (Qt.build [(0, 1), (1, 1), (2, 1)] [.pointer none, .pointer none, .map none] [_, _, _] [(0, _), (1, _), (2, _)] (by kernel_rfl) (by unfold zeroB; kernel_rfl) rfl rfl) ?_
  refine LW.e rfl (Ef.box [_, _, _] rfl rfl ?_)
  intro g17
  refine LW.q rfl (Qt.assign rfl) ?_
  refine LW.done ?_
  refine T.ret ?_
  exact ⟨.inl rfl, _, _, res [_] rfl ⟨rvT rfl, trivial⟩, ⟨_, gl, gu, gm, rfl, rfl⟩, Sub.any⟩
theorem Ri.len (B : Base) (g gl gu gm : Nat) (M : List PE) (L U : List KV) : Fn Try.prog B 35 #[pV g] (riL g gl gu gm M L U) (fun u l => u = .int .i64 M.length ∧ l = riL g gl gu gm M L U) := by
  refine Fn.enter1 8 Try.func35 rfl rfl (Nat.le_of_ble_eq_true rfl) (fun F => ?_)
  try simp only [List.cons_append, List.nil_append]
  refine T.seq ?_
  refine T.region ?_
  refine LW.q rfl (Qt.assign rfl) ?_
  refine LW.done ?_
  refine T.seq ?_
  refine T.region ?_
  refine LW.q rfl (Qt.move rfl) ?_
  refine LW.q rfl (Qt.nilCheck rfl) ?_
  refine LW.q rfl (Qt.fieldAddr (off := 2) (by kernel_rfl) rfl) ?_
  first | refine LW.q rfl (Qt.load (by kernel_rfl) rfl rfl) ?_ | refine LW.q rfl (Qt.load (by kernel_rfl) rfl (map_at _ _ _ (by omega))) ?_ | refine LW.q rfl (Qt.load (by kernel_rfl) rfl (flat_cell0 _ _ _ (by intros; rfl) _ (by omega) (by rfl))) ?_ | refine LW.q rfl (Qt.load (by kernel_rfl) rfl (flat_cell _ _ _ (by intros; rfl) _ _ (by omega) (by rfl))) ?_ | refine LW.q rfl (Qt.load (by kernel_rfl) rfl (bytes_at _ _ (by omega))) ?_
  refine LW.q rfl (Qt.lenMap (L := M) Try.underlying122 rfl) ?_
  refine LW.q rfl (Qt.assign rfl) ?_
  refine LW.done ?_
  refine T.ret ?_
  exact ⟨.inl rfl, _, _, res [_] rfl ⟨rvT rfl, trivial⟩, ⟨rfl, rfl⟩, Sub.any⟩
theorem Ri.addNo (B : Base) (g : Nat) (id f t : Int) (h : ¬ okP f t) : Fn Try.prog B 33 #[pV g, .int .i64 id, pdV f t] [] (fun u l => u = .int .i64 40 ∧ l = []) := by
  refine Fn.enter3 57 Try.func33 rfl rfl (Nat.le_of_ble_eq_true rfl) (fun F => ?_)
  try simp only [List.cons_append, List.nil_append]
  refine T.seq ?_
  refine T.region ?_
  refine LW.e rfl (Ef.box [_, _] rfl rfl ?_)
  intro g5
  refine LW.q rfl (Qt.assign rfl) ?_
  refine LW.done ?_
  refine T.seq ?_
  refine T.region ?_
  first | refine LW.q rfl (Qt.loadAgg [_, _] (by kernel_rfl) rfl ⟨rfl, rfl, trivial⟩) ?_ | refine LW.q rfl (Qt.loadAgg [_, _] (by kernel_rfl) rfl (by exact rdl_flat _ _ _ (by intros; rfl) _ (by omega))) ?_
  refine LW.e rfl (Ef.call (Ri.forkNo B f t h) Try.func27 rfl rfl rfl ?_)
  rintro _ _ ⟨rfl, rfl⟩
  try simp only [List.cons_append, List.nil_append]
  refine LW.q rfl (Qt.move rfl) ?_
  refine LW.q rfl (Qt.extr rfl rfl) ?_
  refine LW.q rfl (Qt.extr rfl rfl) ?_
  refine LW.q rfl (Qt.assign rfl) ?_
  refine LW.q rfl (Qt.assign rfl) ?_
  refine LW.done ?_
  refine T.seq ?_
  refine T.seq ?_
  refine T.region ?_
  refine LW.q rfl (Qt.move rfl) ?_
  refine LW.q rfl (Qt.neq rfl rfl) ?_
  refine LW.done ?_
  first | refine T.condT rfl ?_ | refine T.condPT rfl (by omega) ?_ | refine T.condBT rfl (by omega) ?_
  refine T.seq ?_
  refine T.region ?_
  refine LW.q rfl (Qt.move rfl) ?_
  refine LW.q rfl (Qt.assign rfl) ?_
  refine LW.done ?_
  refine T.ret ?_
  exact ⟨.inl rfl, _, _, res [_] rfl ⟨rvT rfl, trivial⟩, ⟨rfl, rfl⟩, Sub.any⟩
theorem Ri.addKey (B : Base) (g gl gu gm : Nat) (M : List PE) (L U : List KV) (id : Int) (f t : Nat) (h : okP f t) (e : Nat × Nat) (hl : lookM M id = some e) : Fn Try.prog B 33 #[pV g, .int .i64 id, pdV f t] (riL g gl gu gm M L U) (fun u l => u = .int .i64 90 ∧ l = riL g gl gu gm M L U) := by
  refine Fn.enter3 57 Try.func33 rfl rfl (Nat.le_of_ble_eq_true rfl) (fun F => ?_)
  try simp only [List.cons_append, List.nil_append]
  refine T.seq ?_
  refine T.region ?_
  refine LW.e rfl (Ef.box [_, _] rfl rfl ?_)
  intro g5
  refine LW.q rfl (Qt.assign rfl) ?_
  refine LW.done ?_
  refine T.seq ?_
  refine T.region ?_
  first | refine LW.q rfl (Qt.loadAgg [_, _] (by kernel_rfl) rfl ⟨rfl, rfl, trivial⟩) ?_ | refine LW.q rfl (Qt.loadAgg [_, _] (by kernel_rfl) rfl (by exact rdl_flat _ _ _ (by intros; rfl) _ (by omega))) ?_
  refine LW.e rfl (Ef.call (Ri.fork B f t h) Try.func27 rfl rfl rfl ?_)
  rintro _ _ ⟨rfl, rfl⟩
  try simp only [List.cons_append, List.nil_append]
  refine LW.q rfl (Qt.move rfl) ?_
  refine LW.q rfl (Qt.extr rfl rfl) ?_
  refine LW.q rfl (Qt.extr rfl rfl) ?_
  refine LW.q rfl (Qt.assign rfl) ?_
  refine LW.q rfl (Qt.assign rfl) ?_
  refine LW.done ?_
  refine T.seq ?_
  refine T.seq ?_
  refine T.region ?_
  refine LW.q rfl (Qt.move rfl) ?_
  refine LW.q rfl (Qt.neq rfl rfl) ?_
  refine LW.done ?_
  first | refine T.condF rfl ?_ | refine T.condPF rfl (by omega) ?_ | refine T.condBF rfl (by omega) ?_
  refine T.skip ?_
  refine T.seq ?_
  refine T.seq ?_
  refine T.region ?_
  refine LW.q rfl (Qt.move rfl) ?_
  refine LW.q rfl (Qt.nilCheck rfl) ?_
  refine LW.q rfl (Qt.fieldAddr (off := 2) (by kernel_rfl) rfl) ?_
  first | refine LW.q rfl (Qt.load (by kernel_rfl) rfl rfl) ?_ | refine LW.q rfl (Qt.load (by kernel_rfl) rfl (map_at _ _ _ (by omega))) ?_ | refine LW.q rfl (Qt.load (by kernel_rfl) rfl (flat_cell0 _ _ _ (by intros; rfl) _ (by omega) (by rfl))) ?_ | refine LW.q rfl (Qt.load (by kernel_rfl) rfl (flat_cell _ _ _ (by intros; rfl) _ _ (by omega) (by rfl))) ?_ | refine LW.q rfl (Qt.load (by kernel_rfl) rfl (bytes_at _ _ (by omega))) ?_
  refine LW.q rfl (Qt.move rfl) ?_
  refine LW.q rfl (Qt.look2S Ri.okM rfl id rfl hl) ?_
  refine LW.q rfl (Qt.move rfl) ?_
  refine LW.q rfl (Qt.extr rfl rfl) ?_
  refine LW.q rfl (Qt.extr rfl rfl) ?_
  refine LW.e rfl (Ef.alloc [.int .i64 0, .int .i64 0] (by unfold zeroB; kernel_rfl) ?_)
  intro g9
  refine LW.e0 rfl (Ef.store [_, _] (by kernel_rfl) rfl rfl rfl rfl (by simp) ?_)
  try simp only [splice, List.length_cons, List.length_nil, List.drop_succ_cons, List.cons_append, List.take_succ_cons, List.take_zero, List.drop_zero, List.nil_append, List.append_nil]
  refine LW.q rfl (Qt.assign rfl) ?_
  refine LW.done ?_
  refine T.seq ?_
  refine T.region ?_
  refine LW.q rfl (Qt.move rfl) ?_
  refine LW.done ?_
  first | refine T.condT rfl ?_ | refine T.condPT rfl (by omega) ?_ | refine T.condBT rfl (by omega) ?_
  refine T.seq ?_
  refine T.region ?_
  refine LW.q rfl (Qt.assign rfl) ?_
  refine LW.done ?_
  refine T.ret ?_
  exact ⟨.inl rfl, _, _, res [_] rfl ⟨rvT rfl, trivial⟩, ⟨rfl, rfl⟩, Sub.any⟩
set_option maxHeartbeats 2000000 in
theorem Ri.addOk (B : Base) (g gl gu gm : Nat) (M : List PE) (L U : List KV) (id : Int) (f t : Nat) (h : okP f t) (hl : lookM M id = none) (h1 : minI ≤ id) (h2 : id < 9223372036854775808) (hL : L.length < 2 ^ 39) (hU : U.length < 2 ^ 39) : Fn Try.prog B 33 #[pV g, .int .i64 id, pdV f t] (riL g gl gu gm M L U) (fun u l => u = .int .i64 0 ∧ l = riL g gl gu gm (putM M id (f, t)) (putL (keyS (forkN f t) f id) id L) (putL (keyS (forkN f t) t id) id U)) := by
  have hfl := fork_in (f := f) (t := t) (by obtain ⟨_, a, _⟩ := h; omega)
  have ht : t ≤ 1099511627776 := by obtain ⟨_, _, a⟩ := h; omega
  refine Fn.enter3 57 Try.func33 rfl rfl (Nat.le_of_ble_eq_true rfl) (fun F => ?_)
  try simp only [List.cons_append, List.nil_append]
  refine T.seq ?_
  refine T.region ?_
  refine LW.e rfl (Ef.box [_, _] rfl rfl ?_)
  intro g5
  refine LW.q rfl (Qt.assign rfl) ?_
  refine LW.done ?_
  refine T.seq ?_
  refine T.region ?_
  first | refine LW.q rfl (Qt.loadAgg [_, _] (by kernel_rfl) rfl ⟨rfl, rfl, trivial⟩) ?_ | refine LW.q rfl (Qt.loadAgg [_, _] (by kernel_rfl) rfl (by exact rdl_flat _ _ _ (by intros; rfl) _ (by omega))) ?_
  refine LW.e rfl (Ef.call (Ri.fork B f t h) Try.func27 rfl rfl rfl ?_)
  rintro _ _ ⟨rfl, rfl⟩
  try simp only [List.cons_append, List.nil_append]
  refine LW.q rfl (Qt.move rfl) ?_
  refine LW.q rfl (Qt.extr rfl rfl) ?_
  refine LW.q rfl (Qt.extr rfl rfl) ?_
  refine LW.q rfl (Qt.assign rfl) ?_
  refine LW.q rfl (Qt.assign rfl) ?_
  refine LW.done ?_
  refine T.seq ?_
  refine T.seq ?_
  refine T.region ?_
  refine LW.q rfl (Qt.move rfl) ?_
  refine LW.q rfl (Qt.neq rfl rfl) ?_
  refine LW.done ?_
  first | refine T.condF rfl ?_ | refine T.condPF rfl (by omega) ?_ | refine T.condBF rfl (by omega) ?_
  refine T.skip ?_
  refine T.seq ?_
  refine T.seq ?_
  refine T.region ?_
  refine LW.q rfl (Qt.move rfl) ?_
  refine LW.q rfl (Qt.nilCheck rfl) ?_
  refine LW.q rfl (Qt.fieldAddr (off := 2) (by kernel_rfl) rfl) ?_
  first | refine LW.q rfl (Qt.load (by kernel_rfl) rfl rfl) ?_ | refine LW.q rfl (Qt.load (by kernel_rfl) rfl (map_at _ _ _ (by omega))) ?_ | refine LW.q rfl (Qt.load (by kernel_rfl) rfl (flat_cell0 _ _ _ (by intros; rfl) _ (by omega) (by rfl))) ?_ | refine LW.q rfl (Qt.load (by kernel_rfl) rfl (flat_cell _ _ _ (by intros; rfl) _ _ (by omega) (by rfl))) ?_ | refine LW.q rfl (Qt.load (by kernel_rfl) rfl (bytes_at _ _ (by omega))) ?_
  refine LW.q rfl (Qt.move rfl) ?_
  refine LW.q rfl (Qt.look2N Ri.okM rfl id rfl hl) ?_
  refine LW.q rfl (Qt.move rfl) ?_
  refine LW.q rfl (Qt.extr rfl rfl) ?_
  refine LW.q rfl (Qt.extr rfl rfl) ?_
  refine LW.e rfl (Ef.alloc [.int .i64 0, .int .i64 0] (by unfold zeroB; kernel_rfl) ?_)
  intro g9
  refine LW.e0 rfl (Ef.store [_, _] (by kernel_rfl) rfl rfl rfl rfl (by simp) ?_)
  try simp only [splice, List.length_cons, List.length_nil, List.drop_succ_cons, List.cons_append, List.take_succ_cons, List.take_zero, List.drop_zero, List.nil_append, List.append_nil]
  refine LW.q rfl (Qt.assign rfl) ?_
  refine LW.done ?_
  refine T.seq ?_
  refine T.region ?_
  refine LW.q rfl (Qt.move rfl) ?_
  refine LW.done ?_
  first | refine T.condF rfl ?_ | refine T.condPF rfl (by omega) ?_ | refine T.condBF rfl (by omega) ?_
  refine T.skip ?_
  refine T.seq ?_
  refine T.draw 6 ([blk g (riC gl gu gm) 124, blk g5 [.int .i64 f, .int .i64 t] 57]) (by kernel_rfl) (Nat.le_of_ble_eq_true rfl) (by kernel_rfl) ?_
  refine RW.q 0 rfl rfl (by kernel_rfl) Sub.any (Qt.move rfl) ?_
  refine RW.q 1 rfl rfl (by kernel_rfl) Sub.any (Qt.nilCheck rfl) ?_
  refine RW.q 2 rfl rfl (by kernel_rfl) Sub.any (Qt.fieldAddr (off := 2) (by kernel_rfl) rfl) ?_
  first | refine RW.q 3 rfl rfl (by kernel_rfl) Sub.any (Qt.load (by kernel_rfl) rfl rfl) ?_ | refine RW.q 3 rfl rfl (by kernel_rfl) Sub.any (Qt.load (by kernel_rfl) rfl (map_at _ _ _ (by omega))) ?_ | refine RW.q 3 rfl rfl (by kernel_rfl) Sub.any (Qt.load (by kernel_rfl) rfl (flat_cell0 _ _ _ (by intros; rfl) _ (by omega) (by rfl))) ?_ | refine RW.q 3 rfl rfl (by kernel_rfl) Sub.any (Qt.load (by kernel_rfl) rfl (flat_cell _ _ _ (by intros; rfl) _ _ (by omega) (by rfl))) ?_ | refine RW.q 3 rfl rfl (by kernel_rfl) Sub.any (Qt.load (by kernel_rfl) rfl (bytes_at _ _ (by omega))) ?_
  refine RW.q 4 rfl rfl (by kernel_rfl) Sub.any (Qt.move rfl) ?_
  first | refine RW.q 5 rfl rfl (by kernel_rfl) Sub.any (Qt.loadAgg [_, _] (by kernel_rfl) rfl ⟨rfl, rfl, trivial⟩) ?_ | refine RW.q 5 rfl rfl (by kernel_rfl) Sub.any (Qt.loadAgg [_, _] (by kernel_rfl) rfl (by exact rdl_flat _ _ _ (by intros; rfl) _ (by omega))) ?_
  refine RW.done (by rfl) ?_
  simp only [List.drop_succ_cons, List.drop_zero, List.drop_nil]
  refine LW.e0 rfl (Ef.mapUpdate Ri.okM rfl id rfl (f, t) rfl ?_)
  try simp only [List.cons_append, List.nil_append]
  refine LW.done ?_
  refine T.seq ?_
  refine T.draw 11 ([blk g (riC gl gu gm) 124, blk g5 [.int .i64 f, .int .i64 t] 57]) (by kernel_rfl) (Nat.le_of_ble_eq_true rfl) (by kernel_rfl) ?_
  refine RW.q 0 rfl rfl (by kernel_rfl) Sub.any (Qt.move rfl) ?_
  refine RW.q 1 rfl rfl (by kernel_rfl) Sub.any (Qt.nilCheck rfl) ?_
  refine RW.q 2 rfl rfl (by kernel_rfl) Sub.any (Qt.fieldAddr0 (by kernel_rfl) rfl) ?_
  first | refine RW.q 3 rfl rfl (by kernel_rfl) Sub.any (Qt.load (by kernel_rfl) rfl rfl) ?_ | refine RW.q 3 rfl rfl (by kernel_rfl) Sub.any (Qt.load (by kernel_rfl) rfl (map_at _ _ _ (by omega))) ?_ | refine RW.q 3 rfl rfl (by kernel_rfl) Sub.any (Qt.load (by kernel_rfl) rfl (flat_cell0 _ _ _ (by intros; rfl) _ (by omega) (by rfl))) ?_ | refine RW.q 3 rfl rfl (by kernel_rfl) Sub.any (Qt.load (by kernel_rfl) rfl (flat_cell _ _ _ (by intros; rfl) _ _ (by omega) (by rfl))) ?_ | refine RW.q 3 rfl rfl (by kernel_rfl) Sub.any (Qt.load (by kernel_rfl) rfl (bytes_at _ _ (by omega))) ?_
  refine RW.q 4 rfl rfl (by kernel_rfl) Sub.any (Qt.move rfl) ?_
  refine RW.q 5 rfl rfl (by kernel_rfl) Sub.any (Qt.fieldAddr0 (by kernel_rfl) rfl) ?_
  first | refine RW.q 6 rfl rfl (by kernel_rfl) Sub.any (Qt.load (by kernel_rfl) rfl rfl) ?_ | refine RW.q 6 rfl rfl (by kernel_rfl) Sub.any (Qt.load (by kernel_rfl) rfl (map_at _ _ _ (by omega))) ?_ | refine RW.q 6 rfl rfl (by kernel_rfl) Sub.any (Qt.load (by kernel_rfl) rfl (flat_cell0 _ _ _ (by intros; rfl) _ (by omega) (by rfl))) ?_ | refine RW.q 6 rfl rfl (by kernel_rfl) Sub.any (Qt.load (by kernel_rfl) rfl (flat_cell _ _ _ (by intros; rfl) _ _ (by omega) (by rfl))) ?_ | refine RW.q 6 rfl rfl (by kernel_rfl) Sub.any (Qt.load (by kernel_rfl) rfl (bytes_at _ _ (by omega))) ?_
  refine RW.q 7 rfl rfl (by kernel_rfl) Sub.any (Qt.move rfl) ?_
  refine RW.q 9 rfl rfl (by kernel_rfl) Sub.any (Qt.move rfl) ?_
  refine RW.one 8 (by kernel_rfl) ?_
  refine RO.eS rfl rfl (Ef.call (Ri.key B (forkN f t) f id _ _ rfl rfl (by omega) (by omega) h1 h2) Try.func63 rfl rfl rfl ?_)
  rintro _ _ ⟨rfl, rfl⟩
  try simp only [List.cons_append, List.nil_append]
  refine ⟨Sub.any, ?_⟩
  refine RW.one 10 (by kernel_rfl) ?_
  refine RO.r rfl rfl (by kernel_rfl) (Ef.call (Bt.put B gl 8 L (keyS (forkN f t) f id) id hL) Try.func15 rfl rfl rfl ?_)
  rintro _ _ ⟨rfl, rfl⟩
  try simp only [List.cons_append, List.nil_append]
  refine RW.done (by rfl) ?_
  simp only [List.drop_succ_cons, List.drop_zero, List.drop_nil]
  refine LW.done ?_
  refine T.seq ?_
  refine T.draw 11 ([blk g (riC gl gu gm) 124, blk g5 [.int .i64 f, .int .i64 t] 57]) (by kernel_rfl) (Nat.le_of_ble_eq_true rfl) (by kernel_rfl) ?_
  refine RW.q 0 rfl rfl (by kernel_rfl) Sub.any (Qt.move rfl) ?_
  refine RW.q 1 rfl rfl (by kernel_rfl) Sub.any (Qt.nilCheck rfl) ?_
  refine RW.q 2 rfl rfl (by kernel_rfl) Sub.any (Qt.fieldAddr (off := 1) (by kernel_rfl) rfl) ?_
  first | refine RW.q 3 rfl rfl (by kernel_rfl) Sub.any (Qt.load (by kernel_rfl) rfl rfl) ?_ | refine RW.q 3 rfl rfl (by kernel_rfl) Sub.any (Qt.load (by kernel_rfl) rfl (map_at _ _ _ (by omega))) ?_ | refine RW.q 3 rfl rfl (by kernel_rfl) Sub.any (Qt.load (by kernel_rfl) rfl (flat_cell0 _ _ _ (by intros; rfl) _ (by omega) (by rfl))) ?_ | refine RW.q 3 rfl rfl (by kernel_rfl) Sub.any (Qt.load (by kernel_rfl) rfl (flat_cell _ _ _ (by intros; rfl) _ _ (by omega) (by rfl))) ?_ | refine RW.q 3 rfl rfl (by kernel_rfl) Sub.any (Qt.load (by kernel_rfl) rfl (bytes_at _ _ (by omega))) ?_
  refine RW.q 4 rfl rfl (by kernel_rfl) Sub.any (Qt.move rfl) ?_
  refine RW.q 5 rfl rfl (by kernel_rfl) Sub.any (Qt.fieldAddr (off := 1) (by kernel_rfl) rfl) ?_
  first | refine RW.q 6 rfl rfl (by kernel_rfl) Sub.any (Qt.load (by kernel_rfl) rfl rfl) ?_ | refine RW.q 6 rfl rfl (by kernel_rfl) Sub.any (Qt.load (by kernel_rfl) rfl (map_at _ _ _ (by omega))) ?_ | refine RW.q 6 rfl rfl (by kernel_rfl) Sub.any (Qt.load (by kernel_rfl) rfl (flat_cell0 _ _ _ (by intros; rfl) _ (by omega) (by rfl))) ?_ | refine RW.q 6 rfl rfl (by kernel_rfl) Sub.any (Qt.load (by kernel_rfl) rfl (flat_cell _ _ _ (by intros; rfl) _ _ (by omega) (by rfl))) ?_ | refine RW.q 6 rfl rfl (by kernel_rfl) Sub.any (Qt.load (by kernel_rfl) rfl (bytes_at _ _ (by omega))) ?_
  refine RW.q 7 rfl rfl (by kernel_rfl) Sub.any (Qt.move rfl) ?_
  refine RW.q 9 rfl rfl (by kernel_rfl) Sub.any (Qt.move rfl) ?_
  refine RW.one 8 (by kernel_rfl) ?_
  refine RO.eS rfl rfl (Ef.call (Ri.key B (forkN f t) t id _ _ rfl rfl (by omega) (by omega) h1 h2) Try.func63 rfl rfl rfl ?_)
  rintro _ _ ⟨rfl, rfl⟩
  try simp only [List.cons_append, List.nil_append]
  refine ⟨Sub.any, ?_⟩
  refine RW.one 10 (by kernel_rfl) ?_
  refine RO.r rfl rfl (by kernel_rfl) (Ef.call (Bt.put B gu 8 U (keyS (forkN f t) t id) id hU) Try.func15 rfl rfl rfl ?_)
  rintro _ _ ⟨rfl, rfl⟩
  try simp only [List.cons_append, List.nil_append]
  refine RW.done (by rfl) ?_
  simp only [List.drop_succ_cons, List.drop_zero, List.drop_nil]
  refine LW.done ?_
  refine T.seq ?_
  refine T.region ?_
  refine LW.q rfl (Qt.assign rfl) ?_
  refine LW.done ?_
  refine T.ret ?_
  exact ⟨.inl rfl, _, _, res [_] rfl ⟨rvT rfl, trivial⟩, ⟨rfl, rfl⟩, Sub.any⟩
theorem Ri.cutNo (B : Base) (g gl gu gm : Nat) (M : List PE) (L U : List KV) (id : Int) (hl : lookM M id = none) : Fn Try.prog B 40 #[pV g, .int .i64 id] (riL g gl gu gm M L U) (fun u l => u = .int .i64 4 ∧ l = riL g gl gu gm M L U) := by
  refine Fn.enter2 50 Try.func40 rfl rfl (Nat.le_of_ble_eq_true rfl) (fun F => ?_)
  try simp only [List.cons_append, List.nil_append]
  refine T.seq ?_
  refine T.region ?_
  refine LW.q rfl (Qt.assign rfl) ?_
  refine LW.done ?_
  refine T.seq ?_
  refine T.region ?_
  refine LW.q rfl (Qt.move rfl) ?_
  refine LW.q rfl (Qt.nilCheck rfl) ?_
  refine LW.q rfl (Qt.fieldAddr (off := 2) (by kernel_rfl) rfl) ?_
  first | refine LW.q rfl (Qt.load (by kernel_rfl) rfl rfl) ?_ | refine LW.q rfl (Qt.load (by kernel_rfl) rfl (map_at _ _ _ (by omega))) ?_ | refine LW.q rfl (Qt.load (by kernel_rfl) rfl (flat_cell0 _ _ _ (by intros; rfl) _ (by omega) (by rfl))) ?_ | refine LW.q rfl (Qt.load (by kernel_rfl) rfl (flat_cell _ _ _ (by intros; rfl) _ _ (by omega) (by rfl))) ?_ | refine LW.q rfl (Qt.load (by kernel_rfl) rfl (bytes_at _ _ (by omega))) ?_
  refine LW.q rfl (Qt.move rfl) ?_
  refine LW.q rfl (Qt.look2N Ri.okM rfl id rfl hl) ?_
  refine LW.q rfl (Qt.move rfl) ?_
  refine LW.q rfl (Qt.extr rfl rfl) ?_
  refine LW.q rfl (Qt.extr rfl rfl) ?_
  refine LW.e rfl (Ef.alloc [.int .i64 0, .int .i64 0] (by unfold zeroB; kernel_rfl) ?_)
  intro g5
  refine LW.e0 rfl (Ef.store [_, _] (by kernel_rfl) rfl rfl rfl rfl (by simp) ?_)
  try simp only [splice, List.length_cons, List.length_nil, List.drop_succ_cons, List.cons_append, List.take_succ_cons, List.take_zero, List.drop_zero, List.nil_append, List.append_nil]
  refine LW.q rfl (Qt.assign rfl) ?_
  refine LW.done ?_
  refine T.seq ?_
  refine T.seq ?_
  refine T.region ?_
  refine LW.q rfl (Qt.move rfl) ?_
  first | refine LW.q rfl (Qt.notP rfl) ?_ | refine LW.q rfl (Qt.notB rfl) ?_
  refine LW.done ?_
  first | refine T.condT rfl ?_ | refine T.condPT rfl (by omega) ?_ | refine T.condBT rfl (by omega) ?_
  refine T.seq ?_
  refine T.region ?_
  refine LW.q rfl (Qt.assign rfl) ?_
  refine LW.done ?_
  refine T.ret ?_
  exact ⟨.inl rfl, _, _, res [_] rfl ⟨rvT rfl, trivial⟩, ⟨rfl, rfl⟩, Sub.any⟩
set_option maxHeartbeats 2000000 in
theorem Ri.cutOk (B : Base) (g gl gu gm : Nat) (M : List PE) (L U : List KV) (id : Int) (f t : Nat) (h : okP f t) (hl : lookM M id = some (f, t)) (h1 : minI ≤ id) (h2 : id < 9223372036854775808) (hL : L.length < 2 ^ 39) (hU : U.length < 2 ^ 39) : Fn Try.prog B 40 #[pV g, .int .i64 id] (riL g gl gu gm M L U) (fun u l => u = .int .i64 0 ∧ l = riL g gl gu gm (cutM M id) (cutL (keyS (forkN f t) f id) L) (cutL (keyS (forkN f t) t id) U)) := by
  have hfl := fork_in (f := f) (t := t) (by obtain ⟨_, a, _⟩ := h; omega)
  have ht : t ≤ 1099511627776 := by obtain ⟨_, _, a⟩ := h; omega
  refine Fn.enter2 50 Try.func40 rfl rfl (Nat.le_of_ble_eq_true rfl) (fun F => ?_)
  try simp only [List.cons_append, List.nil_append]
  refine T.seq ?_
  refine T.region ?_
  refine LW.q rfl (Qt.assign rfl) ?_
  refine LW.done ?_
  refine T.seq ?_
  refine T.region ?_
  refine LW.q rfl (Qt.move rfl) ?_
  refine LW.q rfl (Qt.nilCheck rfl) ?_
  refine LW.q rfl (Qt.fieldAddr (off := 2) (by kernel_rfl) rfl) ?_
  first | refine LW.q rfl (Qt.load (by kernel_rfl) rfl rfl) ?_ | refine LW.q rfl (Qt.load (by kernel_rfl) rfl (map_at _ _ _ (by omega))) ?_ | refine LW.q rfl (Qt.load (by kernel_rfl) rfl (flat_cell0 _ _ _ (by intros; rfl) _ (by omega) (by rfl))) ?_ | refine LW.q rfl (Qt.load (by kernel_rfl) rfl (flat_cell _ _ _ (by intros; rfl) _ _ (by omega) (by rfl))) ?_ | refine LW.q rfl (Qt.load (by kernel_rfl) rfl (bytes_at _ _ (by omega))) ?_
  refine LW.q rfl (Qt.move rfl) ?_
  refine LW.q rfl (Qt.look2S Ri.okM rfl id rfl hl) ?_
  refine LW.q rfl (Qt.move rfl) ?_
  refine LW.q rfl (Qt.extr rfl rfl) ?_
  refine LW.q rfl (Qt.extr rfl rfl) ?_
  refine LW.e rfl (Ef.alloc [.int .i64 0, .int .i64 0] (by unfold zeroB; kernel_rfl) ?_)
  intro g5
  refine LW.e0 rfl (Ef.store [_, _] (by kernel_rfl) rfl rfl rfl rfl (by simp) ?_)
  try simp only [splice, List.length_cons, List.length_nil, List.drop_succ_cons, List.cons_append, List.take_succ_cons, List.take_zero, List.drop_zero, List.nil_append, List.append_nil]
  refine LW.q rfl (Qt.assign rfl) ?_
  refine LW.done ?_
  refine T.seq ?_
  refine T.seq ?_
  refine T.region ?_
  refine LW.q rfl (Qt.move rfl) ?_
  first | refine LW.q rfl (Qt.notP rfl) ?_ | refine LW.q rfl (Qt.notB rfl) ?_
  refine LW.done ?_
  first | refine T.condF rfl ?_ | refine T.condPF rfl (by omega) ?_ | refine T.condBF rfl (by omega) ?_
  refine T.skip ?_
  refine T.seq ?_
  refine T.region ?_
  first | refine LW.q rfl (Qt.loadAgg [_, _] (by kernel_rfl) rfl ⟨rfl, rfl, trivial⟩) ?_ | refine LW.q rfl (Qt.loadAgg [_, _] (by kernel_rfl) rfl (by exact rdl_flat _ _ _ (by intros; rfl) _ (by omega))) ?_
  refine LW.e rfl (Ef.call (Ri.fork B f t h) Try.func27 rfl rfl rfl ?_)
  rintro _ _ ⟨rfl, rfl⟩
  try simp only [List.cons_append, List.nil_append]
  refine LW.q rfl (Qt.move rfl) ?_
  refine LW.q rfl (Qt.extr rfl rfl) ?_
  refine LW.q rfl (Qt.extr rfl rfl) ?_
  refine LW.q rfl (Qt.assign rfl) ?_
  refine LW.q rfl (Qt.assign rfl) ?_
  refine LW.done ?_
  refine T.seq ?_
  refine T.region ?_
  refine LW.q rfl (Qt.move rfl) ?_
  refine LW.q rfl (Qt.nilCheck rfl) ?_
  refine LW.q rfl (Qt.fieldAddr (off := 2) (by kernel_rfl) rfl) ?_
  first | refine LW.q rfl (Qt.load (by kernel_rfl) rfl rfl) ?_ | refine LW.q rfl (Qt.load (by kernel_rfl) rfl (map_at _ _ _ (by omega))) ?_ | refine LW.q rfl (Qt.load (by kernel_rfl) rfl (flat_cell0 _ _ _ (by intros; rfl) _ (by omega) (by rfl))) ?_ | refine LW.q rfl (Qt.load (by kernel_rfl) rfl (flat_cell _ _ _ (by intros; rfl) _ _ (by omega) (by rfl))) ?_ | refine LW.q rfl (Qt.load (by kernel_rfl) rfl (bytes_at _ _ (by omega))) ?_
  refine LW.q rfl (Qt.move rfl) ?_
  refine LW.e0 rfl (Ef.delete Ri.okM rfl id rfl ?_)
  try simp only [List.cons_append, List.nil_append]
  refine LW.done ?_
  refine T.seq ?_
  refine T.draw 10 ([blk g (riC gl gu gm) 124, blk g5 [.int .i64 f, .int .i64 t] 57]) (by kernel_rfl) (Nat.le_of_ble_eq_true rfl) (by kernel_rfl) ?_
  refine RW.q 0 rfl rfl (by kernel_rfl) Sub.any (Qt.move rfl) ?_
  refine RW.q 1 rfl rfl (by kernel_rfl) Sub.any (Qt.nilCheck rfl) ?_
  refine RW.q 2 rfl rfl (by kernel_rfl) Sub.any (Qt.fieldAddr0 (by kernel_rfl) rfl) ?_
  first | refine RW.q 3 rfl rfl (by kernel_rfl) Sub.any (Qt.load (by kernel_rfl) rfl rfl) ?_ | refine RW.q 3 rfl rfl (by kernel_rfl) Sub.any (Qt.load (by kernel_rfl) rfl (map_at _ _ _ (by omega))) ?_ | refine RW.q 3 rfl rfl (by kernel_rfl) Sub.any (Qt.load (by kernel_rfl) rfl (flat_cell0 _ _ _ (by intros; rfl) _ (by omega) (by rfl))) ?_ | refine RW.q 3 rfl rfl (by kernel_rfl) Sub.any (Qt.load (by kernel_rfl) rfl (flat_cell _ _ _ (by intros; rfl) _ _ (by omega) (by rfl))) ?_ | refine RW.q 3 rfl rfl (by kernel_rfl) Sub.any (Qt.load (by kernel_rfl) rfl (bytes_at _ _ (by omega))) ?_
  refine RW.q 4 rfl rfl (by kernel_rfl) Sub.any (Qt.move rfl) ?_
  refine RW.q 5 rfl rfl (by kernel_rfl) Sub.any (Qt.fieldAddr0 (by kernel_rfl) rfl) ?_
  first | refine RW.q 6 rfl rfl (by kernel_rfl) Sub.any (Qt.load (by kernel_rfl) rfl rfl) ?_ | refine RW.q 6 rfl rfl (by kernel_rfl) Sub.any (Qt.load (by kernel_rfl) rfl (map_at _ _ _ (by omega))) ?_ | refine RW.q 6 rfl rfl (by kernel_rfl) Sub.any (Qt.load (by kernel_rfl) rfl (flat_cell0 _ _ _ (by intros; rfl) _ (by omega) (by rfl))) ?_ | refine RW.q 6 rfl rfl (by kernel_rfl) Sub.any (Qt.load (by kernel_rfl) rfl (flat_cell _ _ _ (by intros; rfl) _ _ (by omega) (by rfl))) ?_ | refine RW.q 6 rfl rfl (by kernel_rfl) Sub.any (Qt.load (by kernel_rfl) rfl (bytes_at _ _ (by omega))) ?_
  refine RW.q 7 rfl rfl (by kernel_rfl) Sub.any (Qt.move rfl) ?_
  refine RW.one 8 (by kernel_rfl) ?_
  refine RO.eS rfl rfl (Ef.call (Ri.key B (forkN f t) f id _ _ rfl rfl (by omega) (by omega) h1 h2) Try.func63 rfl rfl rfl ?_)
  rintro _ _ ⟨rfl, rfl⟩
  try simp only [List.cons_append, List.nil_append]
  refine ⟨Sub.any, ?_⟩
  refine RW.one 9 (by kernel_rfl) ?_
  refine RO.r rfl rfl (by kernel_rfl) (Ef.call (Bt.Cut B gl 8 L (keyS (forkN f t) f id) hL) Try.func19 rfl rfl rfl ?_)
  rintro _ _ ⟨rfl, rfl⟩
  try simp only [List.cons_append, List.nil_append]
  refine RW.done (by rfl) ?_
  simp only [List.drop_succ_cons, List.drop_zero, List.drop_nil]
  refine LW.done ?_
  refine T.seq ?_
  refine T.draw 10 ([blk g (riC gl gu gm) 124, blk g5 [.int .i64 f, .int .i64 t] 57]) (by kernel_rfl) (Nat.le_of_ble_eq_true rfl) (by kernel_rfl) ?_
  refine RW.q 0 rfl rfl (by kernel_rfl) Sub.any (Qt.move rfl) ?_
  refine RW.q 1 rfl rfl (by kernel_rfl) Sub.any (Qt.nilCheck rfl) ?_
  refine RW.q 2 rfl rfl (by kernel_rfl) Sub.any (Qt.fieldAddr (off := 1) (by kernel_rfl) rfl) ?_
  first | refine RW.q 3 rfl rfl (by kernel_rfl) Sub.any (Qt.load (by kernel_rfl) rfl rfl) ?_ | refine RW.q 3 rfl rfl (by kernel_rfl) Sub.any (Qt.load (by kernel_rfl) rfl (map_at _ _ _ (by omega))) ?_ | refine RW.q 3 rfl rfl (by kernel_rfl) Sub.any (Qt.load (by kernel_rfl) rfl (flat_cell0 _ _ _ (by intros; rfl) _ (by omega) (by rfl))) ?_ | refine RW.q 3 rfl rfl (by kernel_rfl) Sub.any (Qt.load (by kernel_rfl) rfl (flat_cell _ _ _ (by intros; rfl) _ _ (by omega) (by rfl))) ?_ | refine RW.q 3 rfl rfl (by kernel_rfl) Sub.any (Qt.load (by kernel_rfl) rfl (bytes_at _ _ (by omega))) ?_
  refine RW.q 4 rfl rfl (by kernel_rfl) Sub.any (Qt.move rfl) ?_
  refine RW.q 5 rfl rfl (by kernel_rfl) Sub.any (Qt.fieldAddr (off := 1) (by kernel_rfl) rfl) ?_
  first | refine RW.q 6 rfl rfl (by kernel_rfl) Sub.any (Qt.load (by kernel_rfl) rfl rfl) ?_ | refine RW.q 6 rfl rfl (by kernel_rfl) Sub.any (Qt.load (by kernel_rfl) rfl (map_at _ _ _ (by omega))) ?_ | refine RW.q 6 rfl rfl (by kernel_rfl) Sub.any (Qt.load (by kernel_rfl) rfl (flat_cell0 _ _ _ (by intros; rfl) _ (by omega) (by rfl))) ?_ | refine RW.q 6 rfl rfl (by kernel_rfl) Sub.any (Qt.load (by kernel_rfl) rfl (flat_cell _ _ _ (by intros; rfl) _ _ (by omega) (by rfl))) ?_ | refine RW.q 6 rfl rfl (by kernel_rfl) Sub.any (Qt.load (by kernel_rfl) rfl (bytes_at _ _ (by omega))) ?_
  refine RW.q 7 rfl rfl (by kernel_rfl) Sub.any (Qt.move rfl) ?_
  refine RW.one 8 (by kernel_rfl) ?_
  refine RO.eS rfl rfl (Ef.call (Ri.key B (forkN f t) t id _ _ rfl rfl (by omega) (by omega) h1 h2) Try.func63 rfl rfl rfl ?_)
  rintro _ _ ⟨rfl, rfl⟩
  try simp only [List.cons_append, List.nil_append]
  refine ⟨Sub.any, ?_⟩
  refine RW.one 9 (by kernel_rfl) ?_
  refine RO.r rfl rfl (by kernel_rfl) (Ef.call (Bt.Cut B gu 8 U (keyS (forkN f t) t id) hU) Try.func19 rfl rfl rfl ?_)
  rintro _ _ ⟨rfl, rfl⟩
  try simp only [List.cons_append, List.nil_append]
  refine RW.done (by rfl) ?_
  simp only [List.drop_succ_cons, List.drop_zero, List.drop_nil]
  refine LW.done ?_
  refine T.seq ?_
  refine T.region ?_
  refine LW.q rfl (Qt.assign rfl) ?_
  refine LW.done ?_
  refine T.ret ?_
  exact ⟨.inl rfl, _, _, res [_] rfl ⟨rvT rfl, trivial⟩, ⟨rfl, rfl⟩, Sub.any⟩
end Go.Proofs.Ytefognjcognknaa

/- Package ritree: Overlap, Stab. Conditions: that the tree is right; sizes. -/
set_option linter.unusedSimpArgs false
set_option linter.unusedVariables false
namespace Go.Proofs.Ytefognjcognknaa
open Go.RowKit
theorem Ri.overNo (B : Base) (g : Nat) (f t : Int) (h : ¬ okP f t) : Fn Try.prog B 34 #[pV g, pdV f t] [] (fun u l => u = .tuple #[.slice none 0 0, .int .i64 40] ∧ l = []) := by
  refine Fn.enter2 80 Try.func34 rfl rfl (Nat.le_of_ble_eq_true rfl) (fun F => ?_)
  try simp only [List.cons_append, List.nil_append]
  refine T.seq ?_
  refine T.region ?_
  refine LW.e rfl (Ef.box [_, _] rfl rfl ?_)
  intro g3
  refine LW.q rfl (Qt.assign rfl) ?_
  refine LW.q rfl (Qt.assign rfl) ?_
  refine LW.done ?_
  refine T.seq ?_
  refine T.region ?_
  first | refine LW.q rfl (Qt.loadAgg [_, _] (by kernel_rfl) rfl ⟨rfl, rfl, trivial⟩) ?_ | refine LW.q rfl (Qt.loadAgg [_, _] (by kernel_rfl) rfl (by exact rdl_flat _ _ _ (by intros; rfl) _ (by omega))) ?_
  refine LW.e rfl (Ef.call (Ri.nodesNo B f t h) Try.func29 rfl rfl rfl ?_)
  rintro _ _ ⟨rfl, rfl⟩
  try simp only [List.cons_append, List.nil_append]
  refine LW.q rfl (Qt.move rfl) ?_
  refine LW.q rfl (Qt.extr rfl rfl) ?_
  refine LW.q rfl (Qt.extr rfl rfl) ?_
  refine LW.q rfl (Qt.extr rfl rfl) ?_
  refine LW.q rfl (Qt.assign rfl) ?_
  refine LW.q rfl (Qt.assign rfl) ?_
  refine LW.q rfl (Qt.assign rfl) ?_
  refine LW.done ?_
  refine T.seq ?_
  refine T.seq ?_
  refine T.region ?_
  refine LW.q rfl (Qt.move rfl) ?_
  refine LW.q rfl (Qt.neq rfl rfl) ?_
  refine LW.done ?_
  first | refine T.condT rfl ?_ | refine T.condPT rfl (by omega) ?_ | refine T.condBT rfl (by omega) ?_
  refine T.seq ?_
  refine T.region ?_
  refine LW.q rfl (Qt.move rfl) ?_
  refine LW.q rfl (Qt.assign rfl) ?_
  refine LW.q rfl (Qt.assign rfl) ?_
  refine LW.done ?_
  refine T.ret ?_
  exact ⟨.inl rfl, _, _, res [_, _] rfl ⟨rvT rfl, rvT rfl, trivial⟩, ⟨rfl, rfl⟩, Sub.any⟩
theorem piece_len {f t : Str} {S : List KV} : ((rgL f t S).map (·.2)).length ≤ S.length := by rw [List.length_map]; exact List.length_filter_le _ _
theorem flat_len {α β : Type} {f : α → List β} {n : Nat} : ∀ {l : List α}, (∀ x ∈ l, (f x).length ≤ n) → (l.flatMap f).length ≤ l.length * n
  | [], _ => by simp
  | x :: l, h => by
    have h1 := h x (List.mem_cons_self ..)
    have h2 := flat_len (l := l) (fun y hy => h y (List.mem_cons_of_mem _ hy))
    rw [List.flatMap_cons, List.length_append, List.length_cons, Nat.add_mul]
    omega
theorem flat_snocZ {f : Int → List Int} {l : List Int} {i : Nat} (h : i < l.length) : (l.take (i + 1)).flatMap f = (l.take i).flatMap f ++ f l[i] := by
  rw [List.take_succ_eq_append_getElem h, List.flatMap_append]; simp
theorem flat_le {f : Int → List Int} {l : List Int} {i n m : Nat} (hf : ∀ x, (f x).length ≤ n) (hl : l.length ≤ m) : ((l.take i).flatMap f).length ≤ m * n := by
  have h1 := flat_len (f := f) (l := l.take i) (n := n) (fun x _ => hf x)
  have h2 : (l.take i).length * n ≤ m * n := Nat.mul_le_mul_right _ (by simp; omega)
  omega
theorem over_start {g : Nat} {l : List Assn} {k : Piece} (K : Has (blk g [.slice none 0 0] 62 :: l) k) : Has (outZ g [] :: l) k := outZ_in (p := none) (c := 0) (xs := []) (Has.cons_imp (fun _ K => Has.rowNil K) K)
set_option maxHeartbeats 4000000 in
set_option maxRecDepth 100000 in
theorem Ri.over (B : Base) (g gl gu gm : Nat) (M : List PE) (L U : List KV) (N : Nat) (hr : RiOk M L U N) (hN : N < 2 ^ 36) (a b : Nat) (h : okP a b) : Fn Try.prog B 34 #[pV g, pdV a b] (riL g gl gu gm M L U) (fun u l => ∃ p c, u = .tuple #[.slice p (ovZ M a b).length c, .int .i64 0] ∧ l = rZ p (ovZ M a b).length c (ovZ M a b) :: riL g gl gu gm M L U) := by
 have hab : a < b := by obtain ⟨_, x, _⟩ := h; omega
 have hb40 : b ≤ 1099511627776 := by obtain ⟨_, _, x⟩ := h; omega
 obtain ⟨l1, l2, l3⟩ := left_spec a
 obtain ⟨r1, r2, r3⟩ := right_spec b
 have hLl := hr.lenL
 have hUl := hr.lenU
 have pl1 : ∀ z, (pieceL U a z).length ≤ N := fun z => Nat.le_trans piece_len hUl
 have pl2 : (pieceM L a b).length ≤ N := Nat.le_trans piece_len hLl
 have pl3 : ∀ z, (pieceR L b z).length ≤ N := fun z => Nat.le_trans piece_len hLl
 refine Fn.enter2 80 Try.func34 rfl rfl (Nat.le_of_ble_eq_true rfl) (fun F => ?_)
 try simp only [List.cons_append, List.nil_append]
 refine T.seq ?_
 refine T.region ?_
 refine LW.e rfl (Ef.box [_, _] rfl rfl ?_)
 intro g3
 refine LW.q rfl (Qt.assign rfl) ?_
 refine LW.q rfl (Qt.assign rfl) ?_
 refine LW.done ?_
 refine T.seq ?_
 refine T.region ?_
 first | refine LW.q rfl (Qt.loadAgg [_, _] (by kernel_rfl) rfl ⟨rfl, rfl, trivial⟩) ?_ | refine LW.q rfl (Qt.loadAgg [_, _] (by kernel_rfl) rfl (by exact rdl_flat _ _ _ (by intros; rfl) _ (by omega))) ?_
 refine LW.e rfl (Ef.call (Ri.nodes B a b h) Try.func29 rfl rfl rfl ?_)
 rintro _ _ ⟨p1, c1, p2, c2, rfl, rfl⟩
 try simp only [List.cons_append, List.nil_append]
 refine LW.q rfl (Qt.move rfl) ?_
 refine LW.q rfl (Qt.extr rfl rfl) ?_
 refine LW.q rfl (Qt.extr rfl rfl) ?_
 refine LW.q rfl (Qt.extr rfl rfl) ?_
 refine LW.q rfl (Qt.assign rfl) ?_
 refine LW.q rfl (Qt.assign rfl) ?_
 refine LW.q rfl (Qt.assign rfl) ?_
 refine LW.done ?_
 refine T.seq ?_
 refine T.seq ?_
 refine T.region ?_
 refine LW.q rfl (Qt.move rfl) ?_
 refine LW.q rfl (Qt.neq rfl rfl) ?_
 refine LW.done ?_
 first | refine T.condF rfl ?_ | refine T.condPF rfl (by omega) ?_ | refine T.condBF rfl (by omega) ?_
 refine T.skip ?_
 refine T.seq ?_
 refine T.region ?_
 refine LW.e rfl (Ef.alloc [.slice none 0 0] (by unfold zeroB; kernel_rfl) ?_)
 intro g9
 refine LW.conv (l' := outZ g9 [] :: rZ p1 (leftZ a).length c1 (leftZ a) :: rZ p2 (rightZ b).length c2 (rightZ b) :: blk g3 [.int .i64 a, .int .i64 b] 57 :: (riL g gl gu gm M L U ++ F)) (fun w ho => ho.map fun k K => over_start (Sub.any k K)) ?_
 refine LW.done ?_
 refine T.seq ?_
 refine T.region ?_
 refine LW.q rfl (Qt.makeFunc [_] rfl) ?_
 refine LW.q rfl (Qt.assign rfl) ?_
 refine LW.done ?_
 refine T.seq ?_
 refine T.seq ?_
 refine T.region ?_
 refine LW.q rfl (Qt.move rfl) ?_
 refine LW.q rfl (Qt.len (e := 2) (sz := 1) (by kernel_rfl) rfl) ?_
 refine LW.q rfl (Qt.move rfl) ?_
 refine LW.done ?_
 refine T.block ?_
 refine T.loop (fun mz fz lz => ∃ (f0 : Fr) (i : Nat) (X : List Int), (i ≤ (leftZ a).length ∧ X = ((leftZ a).take i).flatMap (pieceL U a)) ∧ mz = (leftZ a).length - i ∧ fz = (upd (upd (upd (upd (upd (upd (upd (upd f0 0 (pV g)) 3 (pV g3)) 9 (pV g9)) 10 (.func (.func 64) #[] #[pV g9])) 7 (.slice p2 (rightZ b).length c2)) 25 (.slice p1 (leftZ a).length c1)) 26 (.int .i64 (leftZ a).length)) 27 (.int .i64 i)) ∧ lz = outZ g9 X :: rZ p1 (leftZ a).length c1 (leftZ a) :: rZ p2 (rightZ b).length c2 (rightZ b) :: blk g3 [.int .i64 a, .int .i64 b] 57 :: (riL g gl gu gm M L U ++ F)) ?_ ?_
 · refine ⟨_, _, ⟨_, 0, [], ⟨Nat.zero_le _, by simp⟩, rfl, (updS rfl (updS rfl (updS rfl (updS rfl (updS rfl (updS rfl (updS rfl (updS rfl rfl)))))))), rfl⟩, Sub.any⟩
 ·
  rintro mz fz lz ⟨f0, i, X, ⟨hi, hX⟩, hmz, rfl, rfl⟩
  subst mz
  try simp only [List.cons_append, List.nil_append]
  refine T.seq ?_
  refine T.region ?_
  refine LW.q rfl (Qt.lss rfl rfl) ?_
  refine LW.done ?_
  refine T.seq ?_
  refine T.condP rfl (fun hlt => ?_) (fun hlt => ?_)
  ·
   have hlt' : i < (leftZ a).length := by omega
   refine T.own fun w1 ho1 => ?_
   obtain ⟨g6, rfl⟩ := (ho1.slice_at (p := p1) (m := (leftZ a).length) (c := c1) (k := (leftZ a).length)).2.1 (by omega)
   clear ho1
   obtain ⟨m, hm, hma, hml⟩ := (l2 (leftZ a)[i]).1 (List.getElem_mem _)
   refine T.skip ?_
   refine T.seq ?_
   refine T.block ?_
   refine T.seq ?_
   refine T.region ?_
   refine LW.q rfl (Qt.index i (e := 2) (sz := 1) (by kernel_rfl) rfl rfl rfl hlt') ?_
   refine LW.q rfl (Qt.load (v := .int .i64 m) (by kernel_rfl) rfl (by simp [hlt', hm])) ?_
   refine LW.q rfl (Qt.assign rfl) ?_
   refine LW.done ?_
   refine T.draw 14 ([blk g (riC gl gu gm) 124, blk g3 [.int .i64 a, .int .i64 b] 57]) (by kernel_rfl) (Nat.le_of_ble_eq_true rfl) (by kernel_rfl) ?_
   refine RW.q 0 rfl rfl (by kernel_rfl) Sub.any (Qt.move rfl) ?_
   refine RW.q 1 rfl rfl (by kernel_rfl) Sub.any (Qt.move rfl) ?_
   refine RW.q 2 rfl rfl (by kernel_rfl) Sub.any (Qt.nilCheck rfl) ?_
   refine RW.q 3 rfl rfl (by kernel_rfl) Sub.any (Qt.fieldAddr (off := 1) (by kernel_rfl) rfl) ?_
   first | refine RW.q 4 rfl rfl (by kernel_rfl) Sub.any (Qt.load (by kernel_rfl) rfl rfl) ?_ | refine RW.q 4 rfl rfl (by kernel_rfl) Sub.any (Qt.load (by kernel_rfl) rfl (map_at _ _ _ (by omega))) ?_ | refine RW.q 4 rfl rfl (by kernel_rfl) Sub.any (Qt.load (by kernel_rfl) rfl (flat_cell0 _ _ _ (by intros; rfl) _ (by omega) (by rfl))) ?_ | refine RW.q 4 rfl rfl (by kernel_rfl) Sub.any (Qt.load (by kernel_rfl) rfl (flat_cell _ _ _ (by intros; rfl) _ _ (by omega) (by rfl))) ?_ | refine RW.q 4 rfl rfl (by kernel_rfl) Sub.any (Qt.load (by kernel_rfl) rfl (bytes_at _ _ (by omega))) ?_
   refine RW.q 5 rfl rfl (by kernel_rfl) Sub.any (Qt.move rfl) ?_
   refine RW.q 6 rfl rfl (by kernel_rfl) Sub.any (Qt.fieldAddr0 (by kernel_rfl) rfl) ?_
   first | refine RW.q 7 rfl rfl (by kernel_rfl) Sub.any (Qt.load (by kernel_rfl) rfl rfl) ?_ | refine RW.q 7 rfl rfl (by kernel_rfl) Sub.any (Qt.load (by kernel_rfl) rfl (map_at _ _ _ (by omega))) ?_ | refine RW.q 7 rfl rfl (by kernel_rfl) Sub.any (Qt.load (by kernel_rfl) rfl (flat_cell0 _ _ _ (by intros; rfl) _ (by omega) (by rfl))) ?_ | refine RW.q 7 rfl rfl (by kernel_rfl) Sub.any (Qt.load (by kernel_rfl) rfl (flat_cell _ _ _ (by intros; rfl) _ _ (by omega) (by rfl))) ?_ | refine RW.q 7 rfl rfl (by kernel_rfl) Sub.any (Qt.load (by kernel_rfl) rfl (bytes_at _ _ (by omega))) ?_
   refine RW.q 8 rfl rfl (by kernel_rfl) Sub.any (Qt.add (r := ((a + 1 : Nat) : Int)) rfl rfl (by rw [wr64 (by omega) (by omega)]; omega)) ?_
   refine RW.q 10 rfl rfl (by kernel_rfl) Sub.any (Qt.move rfl) ?_
   refine RW.q 11 rfl rfl (by kernel_rfl) Sub.any (Qt.add (r := ((m + 1 : Nat) : Int)) rfl rfl (by rw [wr64 (by omega) (by omega)]; omega)) ?_
   refine RW.one 9 (by kernel_rfl) ?_
   refine RO.eS rfl rfl (Ef.call (Ri.key B m (a + 1) minI _ _ rfl rfl (by omega) (by omega) (by decide) (by decide)) Try.func63 rfl rfl rfl ?_)
   rintro _ _ ⟨rfl, rfl⟩
   try simp only [List.cons_append, List.nil_append]
   refine ⟨Sub.any, ?_⟩
   refine RW.one 12 (by kernel_rfl) ?_
   refine RO.eS rfl rfl (Ef.call (Ri.key B (m + 1) 0 minI _ _ rfl rfl (by omega) (by omega) (by decide) (by decide)) Try.func63 rfl rfl rfl ?_)
   rintro _ _ ⟨rfl, rfl⟩
   try simp only [List.cons_append, List.nil_append]
   refine ⟨Sub.any, ?_⟩
   refine RW.one 13 (by kernel_rfl) ?_
   refine RO.r rfl rfl (by kernel_rfl) (Ef.callC [pV gu, kT (keyS m (a + 1) minI), kT (keyS (m + 1) 0 minI)] [pV g9] (Ri.take B gu 8 g9 (keyS m (a + 1) minI) (keyS (m + 1) 0 minI) U X (by omega) (by have := flat_le (l := leftZ a) (i := i) pl1 l3; rw [← hX] at this; omega)) Try.func64 rfl rfl rfl rfl rfl ?_)
   rintro _ _ ⟨rfl, rfl⟩
   try simp only [List.cons_append, List.nil_append]
   refine RW.done (by rfl) ?_
   simp only [List.drop_succ_cons, List.drop_zero, List.drop_nil]
   refine LW.done ?_
   refine T.region ?_
   refine LW.q rfl (Qt.add rfl rfl (wr64 (by omega) (by omega))) ?_
   refine LW.q rfl (Qt.move rfl) ?_
   refine LW.done ?_
   refine ⟨_, ?_, _, ⟨_, i + 1, X ++ (rgL (keyS m (a + 1) minI) (keyS (m + 1) 0 minI) U).map (·.2), ⟨hlt', by rw [flat_snocZ hlt', hm, hX]; rfl⟩, rfl, (updS rfl (updS rfl (updS rfl (updS rfl (updS rfl (updS rfl (updS rfl (updS rfl rfl)))))))), rfl⟩, Sub.any⟩
   first | omega | (simp; omega)
  ·
   have el : (leftZ a).take i = leftZ a := List.take_of_length_le (by omega)
   rw [el] at hX
   have hXl : X.length ≤ 41 * N := by have := flat_le (l := leftZ a) (i := (leftZ a).length) pl1 l3; rw [List.take_length, ← hX] at this; exact this
   refine T.exit ?_
   refine T.seq ?_
   refine T.draw 12 ([blk g (riC gl gu gm) 124, blk g3 [.int .i64 a, .int .i64 b] 57]) (by kernel_rfl) (Nat.le_of_ble_eq_true rfl) (by kernel_rfl) ?_
   refine RW.q 0 rfl rfl (by kernel_rfl) Sub.any (Qt.move rfl) ?_
   refine RW.q 1 rfl rfl (by kernel_rfl) Sub.any (Qt.move rfl) ?_
   refine RW.q 2 rfl rfl (by kernel_rfl) Sub.any (Qt.nilCheck rfl) ?_
   refine RW.q 3 rfl rfl (by kernel_rfl) Sub.any (Qt.fieldAddr0 (by kernel_rfl) rfl) ?_
   first | refine RW.q 4 rfl rfl (by kernel_rfl) Sub.any (Qt.load (by kernel_rfl) rfl rfl) ?_ | refine RW.q 4 rfl rfl (by kernel_rfl) Sub.any (Qt.load (by kernel_rfl) rfl (map_at _ _ _ (by omega))) ?_ | refine RW.q 4 rfl rfl (by kernel_rfl) Sub.any (Qt.load (by kernel_rfl) rfl (flat_cell0 _ _ _ (by intros; rfl) _ (by omega) (by rfl))) ?_ | refine RW.q 4 rfl rfl (by kernel_rfl) Sub.any (Qt.load (by kernel_rfl) rfl (flat_cell _ _ _ (by intros; rfl) _ _ (by omega) (by rfl))) ?_ | refine RW.q 4 rfl rfl (by kernel_rfl) Sub.any (Qt.load (by kernel_rfl) rfl (bytes_at _ _ (by omega))) ?_
   refine RW.q 5 rfl rfl (by kernel_rfl) Sub.any (Qt.fieldAddr0 (by kernel_rfl) rfl) ?_
   first | refine RW.q 6 rfl rfl (by kernel_rfl) Sub.any (Qt.load (by kernel_rfl) rfl rfl) ?_ | refine RW.q 6 rfl rfl (by kernel_rfl) Sub.any (Qt.load (by kernel_rfl) rfl (map_at _ _ _ (by omega))) ?_ | refine RW.q 6 rfl rfl (by kernel_rfl) Sub.any (Qt.load (by kernel_rfl) rfl (flat_cell0 _ _ _ (by intros; rfl) _ (by omega) (by rfl))) ?_ | refine RW.q 6 rfl rfl (by kernel_rfl) Sub.any (Qt.load (by kernel_rfl) rfl (flat_cell _ _ _ (by intros; rfl) _ _ (by omega) (by rfl))) ?_ | refine RW.q 6 rfl rfl (by kernel_rfl) Sub.any (Qt.load (by kernel_rfl) rfl (bytes_at _ _ (by omega))) ?_
   refine RW.q 8 rfl rfl (by kernel_rfl) Sub.any (Qt.fieldAddr (off := 1) (by kernel_rfl) rfl) ?_
   first | refine RW.q 9 rfl rfl (by kernel_rfl) Sub.any (Qt.load (by kernel_rfl) rfl rfl) ?_ | refine RW.q 9 rfl rfl (by kernel_rfl) Sub.any (Qt.load (by kernel_rfl) rfl (map_at _ _ _ (by omega))) ?_ | refine RW.q 9 rfl rfl (by kernel_rfl) Sub.any (Qt.load (by kernel_rfl) rfl (flat_cell0 _ _ _ (by intros; rfl) _ (by omega) (by rfl))) ?_ | refine RW.q 9 rfl rfl (by kernel_rfl) Sub.any (Qt.load (by kernel_rfl) rfl (flat_cell _ _ _ (by intros; rfl) _ _ (by omega) (by rfl))) ?_ | refine RW.q 9 rfl rfl (by kernel_rfl) Sub.any (Qt.load (by kernel_rfl) rfl (bytes_at _ _ (by omega))) ?_
   refine RW.one 7 (by kernel_rfl) ?_
   refine RO.eS rfl rfl (Ef.call (Ri.key B a 0 minI _ _ rfl rfl (by omega) (by omega) (by decide) (by decide)) Try.func63 rfl rfl rfl ?_)
   rintro _ _ ⟨rfl, rfl⟩
   try simp only [List.cons_append, List.nil_append]
   refine ⟨Sub.any, ?_⟩
   refine RW.one 10 (by kernel_rfl) ?_
   refine RO.eS rfl rfl (Ef.call (Ri.key B b 0 minI _ _ rfl rfl (by omega) (by omega) (by decide) (by decide)) Try.func63 rfl rfl rfl ?_)
   rintro _ _ ⟨rfl, rfl⟩
   try simp only [List.cons_append, List.nil_append]
   refine ⟨Sub.any, ?_⟩
   refine RW.one 11 (by kernel_rfl) ?_
   refine RO.r rfl rfl (by kernel_rfl) (Ef.callC [pV gl, kT (keyS a 0 minI), kT (keyS b 0 minI)] [pV g9] (Ri.take B gl 8 g9 (keyS a 0 minI) (keyS b 0 minI) L X (by omega) (by omega)) Try.func64 rfl rfl rfl rfl rfl ?_)
   rintro _ _ ⟨rfl, rfl⟩
   try simp only [List.cons_append, List.nil_append]
   refine RW.done (by rfl) ?_
   simp only [List.drop_succ_cons, List.drop_zero, List.drop_nil]
   refine LW.done ?_
   refine T.seq ?_
   refine T.seq ?_
   refine T.region ?_
   refine LW.q rfl (Qt.move rfl) ?_
   refine LW.q rfl (Qt.len (e := 2) (sz := 1) (by kernel_rfl) rfl) ?_
   refine LW.q rfl (Qt.move rfl) ?_
   refine LW.done ?_
   refine T.block ?_
   refine T.loop (fun mz fz lz => ∃ (f0 : Fr) (i : Nat) (Y : List Int), (i ≤ (rightZ b).length ∧ Y = X ++ pieceM L a b ++ ((rightZ b).take i).flatMap (pieceR L b)) ∧ mz = (rightZ b).length - i ∧ fz = (upd (upd (upd (upd (upd (upd (upd f0 0 (pV g)) 3 (pV g3)) 9 (pV g9)) 10 (.func (.func 64) #[] #[pV g9])) 58 (.slice p2 (rightZ b).length c2)) 59 (.int .i64 (rightZ b).length)) 60 (.int .i64 i)) ∧ lz = outZ g9 Y :: rZ p2 (rightZ b).length c2 (rightZ b) :: blk g3 [.int .i64 a, .int .i64 b] 57 :: (riL g gl gu gm M L U ++ F)) ?_ ?_
   · refine ⟨_, _, ⟨_, 0, X ++ (rgL (keyS a 0 minI) (keyS b 0 minI) L).map (·.2), ⟨Nat.zero_le _, by rw [List.take_zero, List.flatMap_nil, List.append_nil]; rfl⟩, rfl, (updS rfl (updS rfl (updS rfl (updS rfl (updS rfl (updS rfl (updS rfl rfl))))))), rfl⟩, Sub.any⟩
   ·
    rintro mz fz lz ⟨f0, i, Y, ⟨hi, hY⟩, hmz, rfl, rfl⟩
    subst mz
    try simp only [List.cons_append, List.nil_append]
    refine T.seq ?_
    refine T.region ?_
    refine LW.q rfl (Qt.lss rfl rfl) ?_
    refine LW.done ?_
    refine T.seq ?_
    refine T.condP rfl (fun hlt2 => ?_) (fun hlt2 => ?_)
    ·
     have hlt' : i < (rightZ b).length := by omega
     refine T.own fun w1 ho1 => ?_
     obtain ⟨g6, rfl⟩ := (ho1.slice_at (p := p2) (m := (rightZ b).length) (c := c2) (k := (rightZ b).length)).2.1 (by omega)
     clear ho1
     obtain ⟨m, hm, hma, hml⟩ := (r2 (rightZ b)[i]).1 (List.getElem_mem _)
     have hm41 := anc_lt (by omega) hma
     refine T.skip ?_
     refine T.seq ?_
     refine T.block ?_
     refine T.seq ?_
     refine T.region ?_
     refine LW.q rfl (Qt.index i (e := 2) (sz := 1) (by kernel_rfl) rfl rfl rfl hlt') ?_
     refine LW.q rfl (Qt.load (v := .int .i64 m) (by kernel_rfl) rfl (by simp [hlt', hm])) ?_
     refine LW.q rfl (Qt.assign rfl) ?_
     refine LW.done ?_
     refine T.draw 12 ([blk g (riC gl gu gm) 124, blk g3 [.int .i64 a, .int .i64 b] 57]) (by kernel_rfl) (Nat.le_of_ble_eq_true rfl) (by kernel_rfl) ?_
     refine RW.q 0 rfl rfl (by kernel_rfl) Sub.any (Qt.move rfl) ?_
     refine RW.q 1 rfl rfl (by kernel_rfl) Sub.any (Qt.move rfl) ?_
     refine RW.q 2 rfl rfl (by kernel_rfl) Sub.any (Qt.nilCheck rfl) ?_
     refine RW.q 3 rfl rfl (by kernel_rfl) Sub.any (Qt.fieldAddr0 (by kernel_rfl) rfl) ?_
     first | refine RW.q 4 rfl rfl (by kernel_rfl) Sub.any (Qt.load (by kernel_rfl) rfl rfl) ?_ | refine RW.q 4 rfl rfl (by kernel_rfl) Sub.any (Qt.load (by kernel_rfl) rfl (map_at _ _ _ (by omega))) ?_ | refine RW.q 4 rfl rfl (by kernel_rfl) Sub.any (Qt.load (by kernel_rfl) rfl (flat_cell0 _ _ _ (by intros; rfl) _ (by omega) (by rfl))) ?_ | refine RW.q 4 rfl rfl (by kernel_rfl) Sub.any (Qt.load (by kernel_rfl) rfl (flat_cell _ _ _ (by intros; rfl) _ _ (by omega) (by rfl))) ?_ | refine RW.q 4 rfl rfl (by kernel_rfl) Sub.any (Qt.load (by kernel_rfl) rfl (bytes_at _ _ (by omega))) ?_
     refine RW.q 5 rfl rfl (by kernel_rfl) Sub.any (Qt.move rfl) ?_
     refine RW.q 7 rfl rfl (by kernel_rfl) Sub.any (Qt.move rfl) ?_
     refine RW.q 8 rfl rfl (by kernel_rfl) Sub.any (Qt.fieldAddr (off := 1) (by kernel_rfl) rfl) ?_
     first | refine RW.q 9 rfl rfl (by kernel_rfl) Sub.any (Qt.load (by kernel_rfl) rfl rfl) ?_ | refine RW.q 9 rfl rfl (by kernel_rfl) Sub.any (Qt.load (by kernel_rfl) rfl (map_at _ _ _ (by omega))) ?_ | refine RW.q 9 rfl rfl (by kernel_rfl) Sub.any (Qt.load (by kernel_rfl) rfl (flat_cell0 _ _ _ (by intros; rfl) _ (by omega) (by rfl))) ?_ | refine RW.q 9 rfl rfl (by kernel_rfl) Sub.any (Qt.load (by kernel_rfl) rfl (flat_cell _ _ _ (by intros; rfl) _ _ (by omega) (by rfl))) ?_ | refine RW.q 9 rfl rfl (by kernel_rfl) Sub.any (Qt.load (by kernel_rfl) rfl (bytes_at _ _ (by omega))) ?_
     refine RW.one 6 (by kernel_rfl) ?_
     refine RO.eS rfl rfl (Ef.call (Ri.key B m 0 minI _ _ rfl rfl (by omega) (by omega) (by decide) (by decide)) Try.func63 rfl rfl rfl ?_)
     rintro _ _ ⟨rfl, rfl⟩
     try simp only [List.cons_append, List.nil_append]
     refine ⟨Sub.any, ?_⟩
     refine RW.one 10 (by kernel_rfl) ?_
     refine RO.eS rfl rfl (Ef.call (Ri.key B m b minI _ _ rfl rfl (by omega) (by omega) (by decide) (by decide)) Try.func63 rfl rfl rfl ?_)
     rintro _ _ ⟨rfl, rfl⟩
     try simp only [List.cons_append, List.nil_append]
     refine ⟨Sub.any, ?_⟩
     refine RW.one 11 (by kernel_rfl) ?_
     refine RO.r rfl rfl (by kernel_rfl) (Ef.callC [pV gl, kT (keyS m 0 minI), kT (keyS m b minI)] [pV g9] (Ri.take B gl 8 g9 (keyS m 0 minI) (keyS m b minI) L Y (by omega) (by have h2 := flat_le (l := rightZ b) (i := i) pl3 r3; rw [hY, List.length_append, List.length_append]; omega)) Try.func64 rfl rfl rfl rfl rfl ?_)
     rintro _ _ ⟨rfl, rfl⟩
     try simp only [List.cons_append, List.nil_append]
     refine RW.done (by rfl) ?_
     simp only [List.drop_succ_cons, List.drop_zero, List.drop_nil]
     refine LW.done ?_
     refine T.region ?_
     refine LW.q rfl (Qt.add rfl rfl (wr64 (by omega) (by omega))) ?_
     refine LW.q rfl (Qt.move rfl) ?_
     refine LW.done ?_
     refine ⟨_, ?_, _, ⟨_, i + 1, Y ++ (rgL (keyS m 0 minI) (keyS m b minI) L).map (·.2), ⟨hlt', by rw [flat_snocZ hlt', hm, hY, ← List.append_assoc]; rfl⟩, rfl, (updS rfl (updS rfl (updS rfl (updS rfl (updS rfl (updS rfl (updS rfl rfl))))))), rfl⟩, Sub.any⟩
     first | omega | (simp; omega)
    ·
     have er : (rightZ b).take i = rightZ b := List.take_of_length_le (by omega)
     rw [er, hX] at hY
     have hfo := found_ov hr (a := a) (b := b) ⟨hab, hb40⟩
     have hfl : Y.length < 2 ^ 61 := by have h2 := flat_le (l := rightZ b) (i := (rightZ b).length) pl3 r3; rw [List.take_length] at h2; rw [hY, ← hX, List.length_append, List.length_append]; omega
     unfold foundZ at hfo
     rw [← hY] at hfo
     have hzl : Y.length = (ovZ M a b).length := by rw [← hfo, List.length_mergeSort]
     refine T.ex (l' := fun pc : Option Addr × Nat => blk g9 [.slice pc.1 Y.length pc.2] 62 :: rZ pc.1 Y.length pc.2 Y :: (riL g gl gu gm M L U ++ F)) (fun w ho => outZ_ex w (ho.map Sub.any)) (fun pc => ?_)
     obtain ⟨p5, c5⟩ := pc
     rw [hzl]
     rw [hzl] at hfl
     refine T.exit ?_
     refine T.seq ?_
     refine T.region ?_
     first | refine LW.q rfl (Qt.load (by kernel_rfl) rfl rfl) ?_ | refine LW.q rfl (Qt.load (by kernel_rfl) rfl (map_at _ _ _ (by omega))) ?_ | refine LW.q rfl (Qt.load (by kernel_rfl) rfl (flat_cell0 _ _ _ (by intros; rfl) _ (by omega) (by rfl))) ?_ | refine LW.q rfl (Qt.load (by kernel_rfl) rfl (flat_cell _ _ _ (by intros; rfl) _ _ (by omega) (by rfl))) ?_ | refine LW.q rfl (Qt.load (by kernel_rfl) rfl (bytes_at _ _ (by omega))) ?_
     refine LW.e rfl (Ef.call (Ri.sort B p5 (ovZ M a b).length c5 Y hzl hfl) Try.func59 rfl rfl rfl ?_)
     rintro _ _ ⟨rfl, rfl⟩
     try simp only [List.cons_append, List.nil_append]
     rw [hfo]
     refine LW.done ?_
     refine T.seq ?_
     refine T.region ?_
     first | refine LW.q rfl (Qt.load (by kernel_rfl) rfl rfl) ?_ | refine LW.q rfl (Qt.load (by kernel_rfl) rfl (map_at _ _ _ (by omega))) ?_ | refine LW.q rfl (Qt.load (by kernel_rfl) rfl (flat_cell0 _ _ _ (by intros; rfl) _ (by omega) (by rfl))) ?_ | refine LW.q rfl (Qt.load (by kernel_rfl) rfl (flat_cell _ _ _ (by intros; rfl) _ _ (by omega) (by rfl))) ?_ | refine LW.q rfl (Qt.load (by kernel_rfl) rfl (bytes_at _ _ (by omega))) ?_
     refine LW.q rfl (Qt.assign rfl) ?_
     refine LW.q rfl (Qt.assign rfl) ?_
     refine LW.done ?_
     refine T.ret ?_
     exact ⟨.inl rfl, _, _, res [_, _] rfl ⟨rvT rfl, rvT rfl, trivial⟩, ⟨p5, c5, rfl, rfl⟩, Sub.any⟩
end Go.Proofs.Ytefognjcognknaa

/- Package ritree: Stab; the laws' awake and longs. Conditions: that the tree is right; sizes. -/
set_option linter.unusedSimpArgs false
set_option linter.unusedVariables false
namespace Go.Proofs.Ytefognjcognknaa
open Go.RowKit
theorem Ri.stabNo (B : Base) (g : Nat) (at_ : Int) (h : ¬ (0 ≤ at_ ∧ at_ < 1099511627776)) : Fn Try.prog B 41 #[pV g, .int .i64 at_] [] (fun u l => u = .tuple #[.slice none 0 0, .int .i64 1] ∧ l = []) := by
 refine Fn.enter2 20 Try.func41 rfl rfl (Nat.le_of_ble_eq_true rfl) (fun F => ?_)
 try simp only [List.cons_append, List.nil_append]
 refine T.seq ?_
 refine T.region ?_
 refine LW.q rfl (Qt.assign rfl) ?_
 refine LW.q rfl (Qt.assign rfl) ?_
 refine LW.done ?_
 refine T.seq ?_
 refine T.seq ?_
 refine T.region ?_
 refine LW.q rfl (Qt.move rfl) ?_
 refine LW.q rfl (Qt.lss rfl rfl) ?_
 refine LW.q rfl (Qt.move rfl) ?_
 refine LW.split (t := 8) rfl (fun h1 => ?_) (fun h1 => ?_)
 ·
  try replace h1 := of_decide_eq_true h1
  refine LW.s rfl ?_
  refine LW.s rfl ?_
  refine LW.q rfl (Qt.pick rfl rfl) ?_
  refine LW.done ?_
  first | refine T.condT rfl ?_ | refine T.condPT rfl (by omega) ?_ | refine T.condBT rfl (by omega) ?_
  refine T.seq ?_
  refine T.region ?_
  refine LW.q rfl (Qt.assign rfl) ?_
  refine LW.q rfl (Qt.assign rfl) ?_
  refine LW.done ?_
  refine T.ret ?_
  exact ⟨.inl rfl, _, _, res [_, _] rfl ⟨rvT rfl, rvT rfl, trivial⟩, ⟨rfl, rfl⟩, Sub.any⟩
 ·
  try replace h1 := of_decide_eq_false h1
  refine LW.q rfl (Qt.move rfl) ?_
  refine LW.q rfl (Qt.geq rfl rfl) ?_
  refine LW.q rfl (Qt.pick rfl rfl) ?_
  refine LW.done ?_
  first | refine T.condT rfl ?_ | refine T.condPT rfl (by omega) ?_ | refine T.condBT rfl (by omega) ?_
  refine T.seq ?_
  refine T.region ?_
  refine LW.q rfl (Qt.assign rfl) ?_
  refine LW.q rfl (Qt.assign rfl) ?_
  refine LW.done ?_
  refine T.ret ?_
  exact ⟨.inl rfl, _, _, res [_, _] rfl ⟨rvT rfl, rvT rfl, trivial⟩, ⟨rfl, rfl⟩, Sub.any⟩
set_option maxHeartbeats 2000000 in
theorem Ri.stab (B : Base) (g gl gu gm : Nat) (M : List PE) (L U : List KV) (N : Nat) (hr : RiOk M L U N) (hN : N < 2 ^ 36) (a : Nat) (h : a < 1099511627776) : Fn Try.prog B 41 #[pV g, .int .i64 a] (riL g gl gu gm M L U) (fun u l => ∃ p c, u = .tuple #[.slice p (ovZ M a (a + 1)).length c, .int .i64 0] ∧ l = rZ p (ovZ M a (a + 1)).length c (ovZ M a (a + 1)) :: riL g gl gu gm M L U) := by
  refine Fn.enter2 20 Try.func41 rfl rfl (Nat.le_of_ble_eq_true rfl) (fun F => ?_)
  try simp only [List.cons_append, List.nil_append]
  refine T.seq ?_
  refine T.region ?_
  refine LW.q rfl (Qt.assign rfl) ?_
  refine LW.q rfl (Qt.assign rfl) ?_
  refine LW.done ?_
  refine T.seq ?_
  refine T.seq ?_
  refine T.region ?_
  refine LW.q rfl (Qt.move rfl) ?_
  refine LW.q rfl (Qt.lss rfl rfl) ?_
  refine LW.q rfl (Qt.move rfl) ?_
  first | refine LW.gF (t := 8) rfl rfl ?_ | refine LW.gF (t := 8) rfl (decide_eq_false (by omega)) ?_ | refine LW.gF (t := 8) rfl (by omega) ?_
  refine LW.q rfl (Qt.move rfl) ?_
  refine LW.q rfl (Qt.geq rfl rfl) ?_
  refine LW.q rfl (Qt.pick rfl rfl) ?_
  refine LW.done ?_
  first | refine T.condF rfl ?_ | refine T.condPF rfl (by omega) ?_ | refine T.condBF rfl (by omega) ?_
  refine T.skip ?_
  refine T.seq ?_
  refine T.region ?_
  refine LW.q rfl (Qt.move rfl) ?_
  refine LW.q rfl (Qt.move rfl) ?_
  refine LW.q rfl (Qt.move rfl) ?_
  refine LW.q rfl (Qt.add (r := ((a + 1 : Nat) : Int)) rfl rfl (by rw [wr64 (by omega) (by omega)]; omega)) ?_
  refine LW.q rfl (Qt.build [(0, 1), (1, 1)] [.int .i64 0, .int .i64 0] [_, _] [(0, _), (1, _)] (by kernel_rfl) (by unfold zeroB; kernel_rfl) rfl rfl) ?_
  refine LW.e rfl (Ef.call (Ri.over B g gl gu gm M L U N hr hN a (a + 1) ⟨by omega, by omega, by omega⟩) Try.func34 rfl rfl rfl ?_)
  rintro _ _ ⟨p, c, rfl, rfl⟩
  try simp only [List.cons_append, List.nil_append]
  refine LW.q rfl (Qt.extr rfl rfl) ?_
  refine LW.q rfl (Qt.extr rfl rfl) ?_
  refine LW.q rfl (Qt.assign rfl) ?_
  refine LW.q rfl (Qt.assign rfl) ?_
  refine LW.done ?_
  refine T.ret ?_
  exact ⟨.inl rfl, _, _, res [_, _] rfl ⟨rvT rfl, rvT rfl, trivial⟩, ⟨p, c, rfl, rfl⟩, Sub.any⟩
abbrev awM : List PE := [(7, (3, 9))]
theorem aw_ok : RiOk awM (putL (keyS (forkN 3 9) 3 7) 7 []) (putL (keyS (forkN 3 9) 9 7) 7 []) 1 := RiOk.add (e := (7, (3, 9))) RiOk.nil ⟨by decide, by decide, by decide, by decide⟩ rfl
theorem aw_ov : ovZ awM 8 20 = [7] := by decide
theorem aw_st : ovZ awM 9 10 = [] := by decide
theorem aw_fk : forkN 3 9 = 8 := by decide +kernel
set_option maxHeartbeats 4000000 in
set_option maxRecDepth 100000 in
theorem Ri.awake (B : Base) : Fn Try.prog B 26 #[] [] (fun u l => u = .bool true ∧ l = []) := by
  refine Fn.enter0 68 Try.func26 rfl rfl (Nat.le_of_ble_eq_true rfl) (fun F => ?_)
  try simp only [List.cons_append, List.nil_append]
  refine T.seq ?_
  refine T.region ?_
  refine LW.q rfl (Qt.assign rfl) ?_
  refine LW.done ?_
  refine T.seq ?_
  refine T.region ?_
  refine LW.e rfl (Ef.call (Ri.new B) Try.func32 rfl rfl rfl ?_)
  rintro _ _ ⟨g, gl, gu, gm, rfl, rfl⟩
  try simp only [List.cons_append, List.nil_append]
  refine LW.q rfl (Qt.assign rfl) ?_
  refine LW.done ?_
  refine T.seq ?_
  refine T.seq ?_
  refine T.region ?_
  refine LW.q rfl (Qt.move rfl) ?_
  first | refine LW.q rfl (Qt.eqlNil (by kernel_rfl) rfl rfl) ?_ | refine LW.q rfl (Qt.eqlNN (by kernel_rfl) rfl rfl) ?_
  refine LW.q rfl (Qt.move rfl) ?_
  first | refine LW.gF (t := 11) rfl rfl ?_ | refine LW.gF (t := 11) rfl (decide_eq_false (by omega)) ?_ | refine LW.gF (t := 11) rfl (by omega) ?_
  refine LW.q rfl (Qt.move rfl) ?_
  refine LW.q rfl (Qt.build [(0, 1), (1, 1)] [.int .i64 0, .int .i64 0] [_, _] [(0, _), (1, _)] (by kernel_rfl) (by unfold zeroB; kernel_rfl) rfl rfl) ?_
  refine LW.e rfl (Ef.call (Ri.addOk B g gl gu gm [] [] [] 7 3 9 ⟨by decide, by decide, by decide⟩ rfl (by decide) (by decide) (by decide) (by decide)) Try.func33 rfl rfl rfl ?_)
  rintro _ _ ⟨rfl, rfl⟩
  try simp only [List.cons_append, List.nil_append]
  rw [show putM ([] : List PE) 7 (3, 9) = awM from rfl]
  have hok := aw_ok
  obtain ⟨L, hL⟩ : ∃ L, L = putL (keyS (forkN 3 9) 3 7) 7 [] := ⟨_, rfl⟩
  obtain ⟨U, hU⟩ : ∃ U, U = putL (keyS (forkN 3 9) 9 7) 7 [] := ⟨_, rfl⟩
  rw [← hL, ← hU] at hok ⊢
  refine LW.q rfl (Qt.neq rfl rfl) ?_
  refine LW.q rfl (Qt.pick rfl rfl) ?_
  refine LW.q rfl (Qt.move rfl) ?_
  first | refine LW.gF (t := 17) rfl rfl ?_ | refine LW.gF (t := 17) rfl (decide_eq_false (by omega)) ?_ | refine LW.gF (t := 17) rfl (by omega) ?_
  refine LW.q rfl (Qt.move rfl) ?_
  refine LW.e rfl (Ef.call (Ri.len B g gl gu gm awM L U) Try.func35 rfl rfl rfl ?_)
  rintro _ _ ⟨rfl, rfl⟩
  try simp only [List.cons_append, List.nil_append]
  refine LW.q rfl (Qt.neq rfl rfl) ?_
  refine LW.q rfl (Qt.pick rfl rfl) ?_
  refine LW.done ?_
  first | refine T.condF rfl ?_ | refine T.condPF rfl (by omega) ?_ | refine T.condBF rfl (by omega) ?_
  refine T.skip ?_
  refine T.seq ?_
  refine T.region ?_
  refine LW.q rfl (Qt.move rfl) ?_
  refine LW.q rfl (Qt.build [(0, 1), (1, 1)] [.int .i64 0, .int .i64 0] [_, _] [(0, _), (1, _)] (by kernel_rfl) (by unfold zeroB; kernel_rfl) rfl rfl) ?_
  refine LW.e rfl (Ef.call (Ri.over B g gl gu gm awM L U 1 hok (by decide) 8 20 ⟨by decide, by decide, by decide⟩) Try.func34 rfl rfl rfl ?_)
  rintro _ _ ⟨p1, c1, rfl, rfl⟩
  try simp only [List.cons_append, List.nil_append]
  rw [aw_ov]
  refine LW.own fun w1 ho1 => ?_
  obtain ⟨g6, rfl⟩ := (ho1.slice_at (p := p1) (m := 1) (c := c1) (k := 1)).2.1 (by omega)
  clear ho1
  refine LW.q rfl (Qt.move rfl) ?_
  refine LW.q rfl (Qt.extr rfl rfl) ?_
  refine LW.q rfl (Qt.extr rfl rfl) ?_
  refine LW.q rfl (Qt.assign rfl) ?_
  refine LW.q rfl (Qt.assign rfl) ?_
  refine LW.done ?_
  refine T.seq ?_
  refine T.region ?_
  refine LW.q rfl (Qt.move rfl) ?_
  refine LW.e rfl (Ef.call (Ri.stab B g gl gu gm awM L U 1 hok (by decide) 9 (by decide)) Try.func41 rfl rfl rfl ?_)
  rintro _ _ ⟨p2, c2, rfl, rfl⟩
  try simp only [List.cons_append, List.nil_append]
  rw [aw_st]
  refine LW.q rfl (Qt.move rfl) ?_
  refine LW.q rfl (Qt.extr rfl rfl) ?_
  refine LW.q rfl (Qt.extr rfl rfl) ?_
  refine LW.q rfl (Qt.assign rfl) ?_
  refine LW.q rfl (Qt.assign rfl) ?_
  refine LW.done ?_
  refine T.seq ?_
  refine T.region ?_
  refine LW.q rfl (Qt.build [(0, 1), (1, 1)] [.int .i64 0, .int .i64 0] [_, _] [(0, _), (1, _)] (by kernel_rfl) (by unfold zeroB; kernel_rfl) rfl rfl) ?_
  refine LW.e rfl (Ef.call (Ri.fork B 3 9 ⟨by decide, by decide, by decide⟩) Try.func27 rfl rfl rfl ?_)
  rintro _ _ ⟨rfl, rfl⟩
  try simp only [List.cons_append, List.nil_append]
  rw [aw_fk]
  refine LW.q rfl (Qt.move rfl) ?_
  refine LW.q rfl (Qt.extr rfl rfl) ?_
  refine LW.q rfl (Qt.extr rfl rfl) ?_
  refine LW.q rfl (Qt.assign rfl) ?_
  refine LW.q rfl (Qt.assign rfl) ?_
  refine LW.done ?_
  refine T.seq ?_
  refine T.region ?_
  refine LW.q rfl (Qt.move rfl) ?_
  refine LW.q rfl (Qt.eql rfl rfl) ?_
  refine LW.q rfl (Qt.move rfl) ?_
  first | refine LW.gT (t := 40) rfl rfl ?_ | refine LW.gT (t := 40) rfl (decide_eq_true (by omega)) ?_ | refine LW.gT (t := 40) rfl (by omega) ?_
  refine LW.q rfl (Qt.move rfl) ?_
  refine LW.q rfl (Qt.eql rfl rfl) ?_
  refine LW.q rfl (Qt.pick rfl rfl) ?_
  refine LW.q rfl (Qt.move rfl) ?_
  first | refine LW.gT (t := 44) rfl rfl ?_ | refine LW.gT (t := 44) rfl (decide_eq_true (by omega)) ?_ | refine LW.gT (t := 44) rfl (by omega) ?_
  refine LW.q rfl (Qt.move rfl) ?_
  refine LW.q rfl (Qt.eql rfl rfl) ?_
  refine LW.q rfl (Qt.pick rfl rfl) ?_
  refine LW.q rfl (Qt.move rfl) ?_
  first | refine LW.gT (t := 48) rfl rfl ?_ | refine LW.gT (t := 48) rfl (decide_eq_true (by omega)) ?_ | refine LW.gT (t := 48) rfl (by omega) ?_
  refine LW.q rfl (Qt.move rfl) ?_
  refine LW.q rfl (Qt.len (e := 2) (sz := 1) (by kernel_rfl) rfl) ?_
  refine LW.q rfl (Qt.eql rfl rfl) ?_
  refine LW.q rfl (Qt.pick rfl rfl) ?_
  refine LW.q rfl (Qt.move rfl) ?_
  first | refine LW.gT (t := 53) rfl rfl ?_ | refine LW.gT (t := 53) rfl (decide_eq_true (by omega)) ?_ | refine LW.gT (t := 53) rfl (by omega) ?_
  refine LW.q rfl (Qt.move rfl) ?_
  refine LW.q rfl (Qt.index 0 (e := 2) (sz := 1) (by kernel_rfl) rfl rfl rfl (by decide)) ?_
  refine LW.q rfl (Qt.load (v := iV 7) (by kernel_rfl) rfl rfl) ?_
  refine LW.q rfl (Qt.eql rfl rfl) ?_
  refine LW.q rfl (Qt.pick rfl rfl) ?_
  refine LW.q rfl (Qt.move rfl) ?_
  first | refine LW.gT (t := 59) rfl rfl ?_ | refine LW.gT (t := 59) rfl (decide_eq_true (by omega)) ?_ | refine LW.gT (t := 59) rfl (by omega) ?_
  refine LW.q rfl (Qt.move rfl) ?_
  refine LW.q rfl (Qt.len (e := 2) (sz := 1) (by kernel_rfl) rfl) ?_
  refine LW.q rfl (Qt.eql rfl rfl) ?_
  refine LW.q rfl (Qt.pick rfl rfl) ?_
  refine LW.q rfl (Qt.move rfl) ?_
  first | refine LW.gT (t := 64) rfl rfl ?_ | refine LW.gT (t := 64) rfl (decide_eq_true (by omega)) ?_ | refine LW.gT (t := 64) rfl (by omega) ?_
  refine LW.q rfl (Qt.move rfl) ?_
  refine LW.q rfl (Qt.eql rfl rfl) ?_
  refine LW.q rfl (Qt.pick rfl rfl) ?_
  refine LW.q rfl (Qt.assign rfl) ?_
  refine LW.done ?_
  refine T.ret ?_
  exact ⟨.inl rfl, _, _, res [_] rfl ⟨rvT rfl, trivial⟩, ⟨rfl, rfl⟩, Sub.any⟩
theorem Ri.longs (B : Base) (S : List Assn) (v1 v2 : Value) (xs ys : List Int) (h1 : RdV B S v1 (xs.map iV)) (h2 : RdV B S v2 (ys.map iV)) (hn1 : xs.length < 2 ^ 40) (hn2 : ys.length < 2 ^ 40) : Fn Try.prog B 31 #[v1, v2] S (fun u l => u = .bool (decide (xs = ys)) ∧ l = S) := by
 obtain ⟨a1, c1, rfl⟩ := h1.form (m := xs.length) (by simp)
 obtain ⟨a2, c2, rfl⟩ := h2.form (m := ys.length) (by simp)
 refine Fn.enter2 26 Try.func31 rfl rfl (Nat.le_of_ble_eq_true rfl) (fun F => ?_)
 try simp only [List.cons_append, List.nil_append]
 refine T.seq ?_
 refine T.region ?_
 refine LW.q rfl (Qt.assign rfl) ?_
 refine LW.done ?_
 refine T.seq ?_
 refine T.seq ?_
 refine T.region ?_
 refine LW.q rfl (Qt.move rfl) ?_
 refine LW.q rfl (Qt.len (e := 2) (sz := 1) (by kernel_rfl) rfl) ?_
 refine LW.q rfl (Qt.move rfl) ?_
 refine LW.q rfl (Qt.len (e := 2) (sz := 1) (by kernel_rfl) rfl) ?_
 refine LW.q rfl (Qt.neq rfl rfl) ?_
 refine LW.done ?_
 refine T.condP rfl (fun hne => ?_) (fun hne => ?_)
 ·
  refine T.seq ?_
  refine T.region ?_
  refine LW.q rfl (Qt.assign rfl) ?_
  refine LW.done ?_
  refine T.ret ?_
  exact ⟨.inl rfl, _, _, res [_] rfl ⟨rvT rfl, trivial⟩, ⟨by have : xs ≠ ys := fun e => hne (by rw [e]); simp [outV, this], rfl⟩, Sub.any⟩
 ·
  have hlen : xs.length = ys.length := by omega
  refine T.skip ?_
  refine T.seq ?_
  refine T.seq ?_
  refine T.region ?_
  refine LW.q rfl (Qt.move rfl) ?_
  refine LW.q rfl (Qt.len (e := 2) (sz := 1) (by kernel_rfl) rfl) ?_
  refine LW.q rfl (Qt.move rfl) ?_
  refine LW.done ?_
  refine T.block ?_
  refine T.loop (fun mz fz lz => ∃ (f0 : Fr) (i : Nat), (i ≤ xs.length ∧ xs.take i = ys.take i) ∧ mz = xs.length - i ∧ fz = (upd (upd (upd (upd f0 0 (.slice a1 xs.length c1)) 1 (.slice a2 ys.length c2)) 12 (.int .i64 xs.length)) 13 (.int .i64 i)) ∧ lz = S ++ F) ?_ ?_
  · refine ⟨_, _, ⟨_, 0, ⟨Nat.zero_le _, rfl⟩, rfl, (updS rfl (updS rfl (updS rfl (updS rfl rfl)))), rfl⟩, Sub.any⟩
  ·
   rintro mz fz lz ⟨f0, i, ⟨hi, htk⟩, hmz, rfl, rfl⟩
   subst mz
   try simp only [List.cons_append, List.nil_append]
   refine T.seq ?_
   refine T.region ?_
   refine LW.q rfl (Qt.lss rfl rfl) ?_
   refine LW.done ?_
   refine T.seq ?_
   refine T.condP rfl (fun hlt => ?_) (fun hlt => ?_)
   ·
    have hx : i < xs.length := by omega
    have hy : i < ys.length := by omega
    obtain ⟨b1, o1, rfl, hc1⟩ := h1.at (m := xs.length) (by omega)
    obtain ⟨b2, o2, rfl, hc2⟩ := h2.at (m := ys.length) (by omega)
    refine T.skip ?_
    refine T.seq ?_
    refine T.block ?_
    refine T.seq ?_
    refine T.region ?_
    refine LW.q rfl (Qt.move rfl) ?_
    refine LW.q rfl (Qt.assign rfl) ?_
    refine LW.done ?_
    refine T.seq ?_
    refine T.drawAll 9 (by kernel_rfl) (Nat.le_of_ble_eq_true rfl) (by kernel_rfl) ?_
    refine RW.q 0 rfl rfl (by kernel_rfl) (Sub.refl _) (Qt.move rfl) ?_
    refine RW.q 1 rfl rfl (by kernel_rfl) (Sub.refl _) (Qt.move rfl) ?_
    refine RW.q 2 rfl rfl (by kernel_rfl) (Sub.refl _) (Qt.index i (e := 2) (sz := 1) (by kernel_rfl) rfl rfl rfl hx) ?_
    refine RW.q 3 rfl rfl (by kernel_rfl) (Sub.refl _) (Qt.loadW (v := iV xs[i]) (by kernel_rfl) rfl (fun w ho => by have := hc1 i (by simpa using hx) w (ho.map Sub.any); simpa using this)) ?_
    refine RW.q 4 rfl rfl (by kernel_rfl) (Sub.refl _) (Qt.move rfl) ?_
    refine RW.q 5 rfl rfl (by kernel_rfl) (Sub.refl _) (Qt.move rfl) ?_
    refine RW.q 6 rfl rfl (by kernel_rfl) (Sub.refl _) (Qt.index i (e := 2) (sz := 1) (by kernel_rfl) rfl rfl rfl hy) ?_
    refine RW.q 7 rfl rfl (by kernel_rfl) (Sub.refl _) (Qt.loadW (v := iV ys[i]) (by kernel_rfl) rfl (fun w ho => by have := hc2 i (by simpa using hy) w (ho.map Sub.any); simpa using this)) ?_
    refine RW.q 8 rfl rfl (by kernel_rfl) (Sub.refl _) (Qt.neq rfl rfl) ?_
    refine RW.done (by rfl) ?_
    simp only [List.drop_succ_cons, List.drop_zero, List.drop_nil]
    refine LW.done ?_
    refine T.condP rfl (fun hd => ?_) (fun hd => ?_)
    ·
     refine T.seq ?_
     refine T.region ?_
     refine LW.q rfl (Qt.assign rfl) ?_
     refine LW.done ?_
     refine T.ret ?_
     exact ⟨.inl rfl, _, _, res [_] rfl ⟨rvT rfl, trivial⟩, ⟨by have : xs ≠ ys := (fun e => by subst e; exact hd rfl); simp [outV, this], rfl⟩, Sub.any⟩
    ·
     refine T.skip ?_
     refine T.region ?_
     refine LW.q rfl (Qt.add rfl rfl (wr64 (by omega) (by omega))) ?_
     refine LW.q rfl (Qt.move rfl) ?_
     refine LW.done ?_
     refine ⟨_, ?_, _, ⟨_, i + 1, ⟨by omega, by rw [take_snocZ hx, take_snocZ hy, htk, show xs[i] = ys[i] by omega]⟩, rfl, (updS rfl (updS rfl (updS rfl (updS rfl rfl)))), rfl⟩, Sub.any⟩
     first | omega | (simp; omega)
   ·
    obtain rfl : i = xs.length := by omega
    rw [List.take_length, hlen, List.take_length] at htk
    refine T.exit ?_
    refine T.seq ?_
    refine T.region ?_
    refine LW.q rfl (Qt.assign rfl) ?_
    refine LW.done ?_
    refine T.ret ?_
    exact ⟨.inl rfl, _, _, res [_] rfl ⟨rvT rfl, trivial⟩, ⟨by simp [outV, htk], rfl⟩, Sub.any⟩
end Go.Proofs.Ytefognjcognknaa

/- Package ritree's calls in all cases: what they answer at right and wrong periods. Conditions: that the tree is right; sizes. -/
set_option linter.unusedSimpArgs false
set_option linter.unusedVariables false
namespace Go.Proofs.Ytefognjcognknaa
open Go.RowKit
theorem RiOk.mono {M : List PE} {L U : List KV} {N N' : Nat} (h : RiOk M L U N) (hn : N ≤ N') : RiOk M L U N' := ⟨h.nd, h.ok, h.upL, h.upU, Nat.le_trans h.lenL hn, Nat.le_trans h.lenU hn, Nat.le_trans h.lenM hn, h.inL, h.inU⟩
theorem okP_nat {f t : Int} (h : okP f t) : ∃ a b : Nat, f = a ∧ t = b ∧ a < b ∧ b ≤ 1099511627776 := by
  obtain ⟨h1, h2, h3⟩ := h
  exact ⟨f.toNat, t.toNat, by omega, by omega, by omega, by omega⟩
def codeP (f t : Int) : Int := if okP f t then 0 else 40
def forkI (f t : Int) : Int := if okP f t then forkN f.toNat t.toNat else 0
theorem Ri.forkA (B : Base) (f t : Int) : Fn Try.prog B 27 #[pdV f t] [] (fun v l => v = .tuple #[.int .i64 (forkI f t), .int .i64 (codeP f t)] ∧ l = []) := by
  by_cases h : okP f t
  · unfold codeP forkI; rw [if_pos h, if_pos h]
    obtain ⟨a, b, rfl, rfl, _, _⟩ := okP_nat h
    exact Ri.fork B a b h
  · unfold codeP forkI; rw [if_neg h, if_neg h]; exact Ri.forkNo B f t h
def leftI (f t : Int) : List Int := if okP f t then leftZ f.toNat else []
def rightI (f t : Int) : List Int := if okP f t then rightZ t.toNat else []
theorem Ri.nodesA (B : Base) (f t : Int) : Fn Try.prog B 29 #[pdV f t] [] (fun u l => ∃ p1 c1 p2 c2, u = .tuple #[.slice p1 (leftI f t).length c1, .slice p2 (rightI f t).length c2, .int .i64 (codeP f t)] ∧ l = [rZ p1 (leftI f t).length c1 (leftI f t), rZ p2 (rightI f t).length c2 (rightI f t)]) := by
  by_cases h : okP f t
  · unfold codeP leftI rightI; rw [if_pos h, if_pos h, if_pos h]
    obtain ⟨a, b, rfl, rfl, _, _⟩ := okP_nat h
    exact Ri.nodes B a b h
  · unfold codeP leftI rightI; rw [if_neg h, if_neg h, if_neg h]
    refine Fn.wide (Ri.nodesNo B f t h) ?_
    rintro _ _ ⟨rfl, rfl⟩
    exact ⟨_, fun k K => Has.rowNil (Has.rowNil (Sub.any k K)), none, 0, none, 0, rfl, rfl⟩
def addCode (M : List PE) (id f t : Int) : Int := if okP f t then (if (lookM M id).isSome then 90 else 0) else 40
def addM (M : List PE) (id f t : Int) : List PE := if okP f t ∧ lookM M id = none then M ++ [(id, (f.toNat, t.toNat))] else M
theorem Ri.addA (B : Base) (g gl gu gm : Nat) (M : List PE) (L U : List KV) (N : Nat) (hr : RiOk M L U N) (hN : N < 2 ^ 36) (id f t : Int) (h1 : minI ≤ id) (h2 : id < 9223372036854775808) : Fn Try.prog B 33 #[pV g, .int .i64 id, pdV f t] (riL g gl gu gm M L U) (fun u l => ∃ L' U', RiOk (addM M id f t) L' U' (N + 1) ∧ u = .int .i64 (addCode M id f t) ∧ l = riL g gl gu gm (addM M id f t) L' U') := by
  have hLl := hr.lenL
  have hUl := hr.lenU
  by_cases h : okP f t
  · obtain ⟨a, b, rfl, rfl, hab, hb⟩ := okP_nat h
    cases hl : lookM M id with
    | none =>
      have e1 : addM M id a b = putM M id (a, b) := by unfold addM; rw [if_pos ⟨h, hl⟩, putM_new hl]; rfl
      have e2 : addCode M id a b = 0 := by unfold addCode; rw [if_pos h, hl]; rfl
      rw [e1, e2]
      refine Fn.wide (Ri.addOk B g gl gu gm M L U id a b h hl h1 h2 (by omega) (by omega)) ?_
      rintro _ _ ⟨rfl, rfl⟩
      exact ⟨_, Sub.any, putL (keyS (forkN a b) a id) id L, putL (keyS (forkN a b) b id) id U, hr.add (e := (id, (a, b))) ⟨h1, h2, hab, hb⟩ hl, rfl, rfl⟩
    | some e =>
      have e1 : addM M id a b = M := by unfold addM; rw [if_neg (fun k => by rw [hl] at k; cases k.2)]
      have e2 : addCode M id a b = 90 := by unfold addCode; rw [if_pos h, hl]; rfl
      rw [e1, e2]
      refine Fn.wide (Ri.addKey B g gl gu gm M L U id a b h e hl) ?_
      rintro _ _ ⟨rfl, rfl⟩
      exact ⟨_, Sub.any, _, _, hr.mono (by omega), rfl, rfl⟩
  · have e1 : addM M id f t = M := by unfold addM; rw [if_neg (fun k => h k.1)]
    have e2 : addCode M id f t = 40 := by unfold addCode; rw [if_neg h]
    rw [e1, e2]
    refine Fn.wide (Ri.addNo B g id f t h) ?_
    rintro _ _ ⟨rfl, rfl⟩
    exact ⟨_, Sub.any, _, _, hr.mono (by omega), rfl, rfl⟩
def cutCode (M : List PE) (id : Int) : Int := if (lookM M id).isSome then 0 else 4
theorem Ri.cutA (B : Base) (g gl gu gm : Nat) (M : List PE) (L U : List KV) (N : Nat) (hr : RiOk M L U N) (hN : N < 2 ^ 36) (id : Int) : Fn Try.prog B 40 #[pV g, .int .i64 id] (riL g gl gu gm M L U) (fun u l => ∃ L' U', RiOk (cutM M id) L' U' N ∧ u = .int .i64 (cutCode M id) ∧ l = riL g gl gu gm (cutM M id) L' U') := by
  have hLl := hr.lenL
  have hUl := hr.lenU
  cases hl : lookM M id with
  | none =>
    have e2 : cutCode M id = 4 := by unfold cutCode; rw [hl]; rfl
    rw [cutM_none hl, e2]
    refine Fn.wide (Ri.cutNo B g gl gu gm M L U id hl) ?_
    rintro _ _ ⟨rfl, rfl⟩
    exact ⟨_, Sub.any, _, _, hr, rfl, rfl⟩
  | some e =>
    obtain ⟨a, b⟩ := e
    have e2 : cutCode M id = 0 := by unfold cutCode; rw [hl]; rfl
    have hm := lookL_mem hl
    obtain ⟨k1, k2, k3, k4⟩ := hr.ok _ hm
    simp only at k1 k2 k3 k4
    rw [e2]
    refine Fn.wide (Ri.cutOk B g gl gu gm M L U id a b ⟨by omega, by omega, by omega⟩ hl k1 k2 (by omega) (by omega)) ?_
    rintro _ _ ⟨rfl, rfl⟩
    exact ⟨_, Sub.any, cutL (keyS (forkN a b) a id) L, cutL (keyS (forkN a b) b id) U, hr.cut hm, rfl, rfl⟩
def ovI (M : List PE) (f t : Int) : List Int := if okP f t then ovZ M f.toNat t.toNat else []
theorem Ri.overA (B : Base) (g gl gu gm : Nat) (M : List PE) (L U : List KV) (N : Nat) (hr : RiOk M L U N) (hN : N < 2 ^ 36) (f t : Int) : Fn Try.prog B 34 #[pV g, pdV f t] (riL g gl gu gm M L U) (fun u l => ∃ p c, u = .tuple #[.slice p (ovI M f t).length c, .int .i64 (codeP f t)] ∧ l = rZ p (ovI M f t).length c (ovI M f t) :: riL g gl gu gm M L U) := by
  by_cases h : okP f t
  · unfold codeP ovI; rw [if_pos h, if_pos h]
    obtain ⟨a, b, rfl, rfl, _, _⟩ := okP_nat h
    exact Ri.over B g gl gu gm M L U N hr hN a b h
  · unfold codeP ovI; rw [if_neg h, if_neg h]
    refine Fn.wide (Ri.overNo B g f t h) ?_
    rintro _ _ ⟨rfl, rfl⟩
    exact ⟨_, fun k K => Has.rowNil (Sub.any k K), none, 0, rfl, rfl⟩
abbrev okI (a : Int) : Prop := 0 ≤ a ∧ a < 1099511627776
def stI (M : List PE) (a : Int) : List Int := if okI a then ovZ M a.toNat (a.toNat + 1) else []
def codeS (a : Int) : Int := if okI a then 0 else 1
theorem Ri.stabA (B : Base) (g gl gu gm : Nat) (M : List PE) (L U : List KV) (N : Nat) (hr : RiOk M L U N) (hN : N < 2 ^ 36) (a : Int) : Fn Try.prog B 41 #[pV g, .int .i64 a] (riL g gl gu gm M L U) (fun u l => ∃ p c, u = .tuple #[.slice p (stI M a).length c, .int .i64 (codeS a)] ∧ l = rZ p (stI M a).length c (stI M a) :: riL g gl gu gm M L U) := by
  by_cases h : okI a
  · unfold codeS stI; rw [if_pos h, if_pos h]
    obtain ⟨n, rfl⟩ : ∃ n : Nat, a = n := ⟨a.toNat, by omega⟩
    exact Ri.stab B g gl gu gm M L U N hr hN n (by omega)
  · unfold codeS stI; rw [if_neg h, if_neg h]
    refine Fn.wide (Ri.stabNo B g a h) ?_
    rintro _ _ ⟨rfl, rfl⟩
    exact ⟨_, fun k K => Has.rowNil (Sub.any k K), none, 0, rfl, rfl⟩
/-! period.Has, period.Overlap -/
theorem Ri.has (B : Base) (f t x : Int) : Fn Try.prog B 37 #[pdV f t, .int .i64 x] [] (fun u l => u = .bool (decide (f ≤ x ∧ x < t)) ∧ l = []) := by
 refine Fn.enter2 15 Try.func37 rfl rfl (Nat.le_of_ble_eq_true rfl) (fun F => ?_)
 try simp only [List.cons_append, List.nil_append]
 refine T.seq ?_
 refine T.region ?_
 refine LW.e rfl (Ef.box [_, _] rfl rfl ?_)
 intro g2
 refine LW.q rfl (Qt.assign rfl) ?_
 refine LW.done ?_
 refine T.seq ?_
 refine T.region ?_
 refine LW.q rfl (Qt.fieldAddr0 (by kernel_rfl) rfl) ?_
 first | refine LW.q rfl (Qt.load (by kernel_rfl) rfl rfl) ?_ | refine LW.q rfl (Qt.load (by kernel_rfl) rfl (map_at _ _ _ (by omega))) ?_ | refine LW.q rfl (Qt.load (by kernel_rfl) rfl (flat_cell0 _ _ _ (by intros; rfl) _ (by omega) (by rfl))) ?_ | refine LW.q rfl (Qt.load (by kernel_rfl) rfl (flat_cell _ _ _ (by intros; rfl) _ _ (by omega) (by rfl))) ?_ | refine LW.q rfl (Qt.load (by kernel_rfl) rfl (bytes_at _ _ (by omega))) ?_
 refine LW.q rfl (Qt.move rfl) ?_
 refine LW.q rfl (Qt.leq rfl rfl) ?_
 refine LW.q rfl (Qt.move rfl) ?_
 refine LW.split (t := 9) rfl (fun h1 => ?_) (fun h1 => ?_)
 ·
  try replace h1 := of_decide_eq_true h1
  refine LW.q rfl (Qt.move rfl) ?_
  refine LW.q rfl (Qt.fieldAddr (off := 1) (by kernel_rfl) rfl) ?_
  first | refine LW.q rfl (Qt.load (by kernel_rfl) rfl rfl) ?_ | refine LW.q rfl (Qt.load (by kernel_rfl) rfl (map_at _ _ _ (by omega))) ?_ | refine LW.q rfl (Qt.load (by kernel_rfl) rfl (flat_cell0 _ _ _ (by intros; rfl) _ (by omega) (by rfl))) ?_ | refine LW.q rfl (Qt.load (by kernel_rfl) rfl (flat_cell _ _ _ (by intros; rfl) _ _ (by omega) (by rfl))) ?_ | refine LW.q rfl (Qt.load (by kernel_rfl) rfl (bytes_at _ _ (by omega))) ?_
  refine LW.q rfl (Qt.lss rfl rfl) ?_
  refine LW.q rfl (Qt.pick rfl rfl) ?_
  refine LW.q rfl (Qt.assign rfl) ?_
  refine LW.done ?_
  refine T.ret ?_
  exact ⟨.inl rfl, _, _, res [_] rfl ⟨rvT rfl, trivial⟩, ⟨by simp [outV, h1], rfl⟩, Sub.any⟩
 ·
  try replace h1 := of_decide_eq_false h1
  refine LW.s rfl ?_
  refine LW.s rfl ?_
  refine LW.s rfl ?_
  refine LW.s rfl ?_
  refine LW.q rfl (Qt.pick rfl rfl) ?_
  refine LW.q rfl (Qt.assign rfl) ?_
  refine LW.done ?_
  refine T.ret ?_
  exact ⟨.inl rfl, _, _, res [_] rfl ⟨rvT rfl, trivial⟩, ⟨by simp [outV, h1], rfl⟩, Sub.any⟩
end Go.Proofs.Ytefognjcognknaa

/- A slice of periods that lies in memory that is only read. Conditions: none. -/
set_option linter.unusedSimpArgs false
set_option linter.unusedVariables false
namespace Go.Proofs.Ytefognjcognknaa
open Go.RowKit
end Go.Proofs.Ytefognjcognknaa

/- How periods read. Conditions: none. -/
set_option linter.unusedSimpArgs false
set_option linter.unusedVariables false
namespace Go.Proofs.Ytefognjcognknaa
open Go.ChangeShapes Go.WideShapes Go.ChangeAt Go.RowKit
def PdR (cs : List Value) (o : Int × Int) : Prop := cs = [.int .i64 o.1, .int .i64 o.2]
section
variable {H : Type} {enc : TypeId × Value → H} {W : World}
theorem read_pd (n : Nat) (cs : List Value) (y : DataW H × List MemPlace) (h : Tr enc Try.prog W n 57 cs = some y) : ∃ o : Int × Int, PdR cs o ∧ 1 ≤ Rows.uptoBulk y.1 := by
  obtain ⟨xs, m, rfl, rfl, hl, hx, hf⟩ := DataW.trod_struct Try.underlying57 h
  rw [show Try.prog.cellsOf 57 = 2 by kernel_rfl] at hl
  have two : ∀ {α : Type} {l : List α}, l.length = 2 → ∃ a b, l = [a, b] := fun {α} {l} h => by
    match l, h with
    | [a, b], _ => exact ⟨a, b, rfl⟩
  obtain ⟨c0, c1, rfl⟩ := two hl
  obtain ⟨x0, x1, rfl⟩ := two hx
  have k1 : Try.prog.cellsOf 2 = 1 := by kernel_rfl
  have f0 := field_of hf 0 2 0 1 rfl k1
  have f1 := field_of hf 1 2 1 1 rfl k1
  simp only [List.drop_zero, List.drop_succ_cons, List.take_succ_cons, List.take_zero, List.getElem?_cons_zero, List.getElem?_cons_succ] at f0 f1
  obtain ⟨i0, e0, b0, _⟩ := DataW.trod_int Try.underlying2 f0
  obtain ⟨i1, e1, b1, _⟩ := DataW.trod_int Try.underlying2 f1
  simp only [List.cons.injEq, and_true] at e0 e1
  subst e0; subst e1
  refine ⟨⟨i0, i1⟩, rfl, ?_⟩
  simp only [List.map_cons, List.map_nil, Rows.uptoBulk, Rows.uptoBulkAll]
  omega
end
end Go.Proofs.Ytefognjcognknaa
