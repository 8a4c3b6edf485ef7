/- The law BtreeDrains of annalslaw09 holds: for all arguments of bulk at most 1048576 the call returns true and the arguments read as before. Condition: the bound of the second form. -/
import Derived.Test.YtefognjcognknaaZBtreeDrains10
import Derived.Maps.RangeRun
/- MpA with other names for the pure operations (putM, cutM, lookM), so that it can stand beside btree's. Written by sed from MpA. -/
set_option linter.unusedSimpArgs false
set_option linter.unusedVariables false
namespace Go.Proofs.Ytefognjcognknaa
open Go.RowKit
set_option linter.unusedSectionVars false

/-- What a map does with its keys: the value of a key, a key's value put, a key gone. -/
def lookM {α β : Type} [DecidableEq α] : List (α × β) → α → Option β
  | [], _ => none
  | p :: l, k => if p.1 = k then some p.2 else lookM l k
def putM {α β : Type} [DecidableEq α] : List (α × β) → α → β → List (α × β)
  | [], k, v => [(k, v)]
  | p :: l, k, v => if p.1 = k then (k, v) :: l else p :: putM l k v
structure MapIs {α β : Type} (ke : α → Value) (ve : β → Value) (L : List (α × β)) (es : Array MapEntry) (clock : Nat) : Prop where
  st : MapKept.Stamped es clock
  eq : es.toList.map (fun e => (e.key, e.val)) = L.map fun p => (ke p.1, ve p.2)
def mpA {α β : Type} (ke : α → Value) (ve : β → Value) (g : Nat) (L : List (α × β)) : Assn := fun h => ∃ es clock, h g = some (.map es clock) ∧ MapIs ke ve L es clock
/-- A map that is ranged over: what is left to come. -/
def rgA {α β : Type} (ke : α → Value) (ve : β → Value) (r g : Nat) (L left : List (α × β)) : Assn := fun h => ∃ es clock seen c0, r ≠ g ∧ h g = some (.map es clock) ∧ MapIs ke ve L es clock ∧ h r = some (.mapIter (some g) clock seen c0) ∧ clock ≤ c0 ∧ (leftOf es seen).toList.map (fun e => (e.key, e.val)) = left.map fun p => (ke p.1, ve p.2)
/-- A map that is ranged over, with an entry at hand. -/
def reA {α β : Type} (ke : α → Value) (ve : β → Value) (r g : Nat) (L left : List (α × β)) (p : α × β) : Assn := fun h => ∃ (es : Array MapEntry) (clock : Nat) (seen : Array Nat) (e : MapEntry), r ≠ g ∧ h g = some (.map es clock) ∧ MapIs ke ve L es clock ∧ h r = some (.mapIter (some g) clock (seen.push e.born) clock) ∧ (leftOf es (seen.push e.born)).toList.map (fun e => (e.key, e.val)) = left.map (fun p => (ke p.1, ve p.2)) ∧ e ∈ es.toList ∧ e.key = ke p.1 ∧ e.val = ve p.2
/-- A map one of whose entries is at hand, by its stamp. -/
def msA {α β : Type} (ke : α → Value) (ve : β → Value) (g : Nat) (L : List (α × β)) (k : α) (b : Nat) : Assn := fun h => ∃ es clock, h g = some (.map es clock) ∧ MapIs ke ve L es clock ∧ ∃ e ∈ es.toList, e.key = ke k ∧ e.born = b

structure MapOk (P : Program) (t : TypeId) {α : Type} (ke : α → Value) (z : Value) : Prop where
  ex : ∃ kt et d, P.underlying t = some (.map kt et) ∧ P.underlying kt = some d ∧ (∀ a, MapKept.IsKey d (ke a)) ∧ (P.info? et).bind (·.zero) = some z
  inj : ∀ a b, ke a = ke b → a = b
theorem MapOk.mk3 {P : Program} {t : TypeId} {α : Type} {ke : α → Value} {z : Value} (kt et : TypeId) (d : TypeDesc) (h1 : P.underlying t = some (.map kt et)) (h2 : P.underlying kt = some d) (h3 : ∀ a, MapKept.IsKey d (ke a)) (h4 : (P.info? et).bind (·.zero) = some z) (h5 : ∀ a b, ke a = ke b → a = b) : MapOk P t ke z := ⟨⟨kt, et, d, h1, h2, h3, h4⟩, h5⟩
theorem strV_inj : ∀ a b : List UInt8, Value.string (strOf a) = .string (strOf b) → a = b := fun a b h => by
  injection h with h
  have := congrArg ByteArray.toList h
  rwa [strOf_toList, strOf_toList] at this

section
variable {P : Program} {B : Base} {n : Nat} {S l r : List Assn} {f : Fr} {K : Value → List Assn → Prop}
variable {d : Option Tmp} {ty : TypeId} {pos : String} {af : Array Edge} {gd : Option (Nat × Bool)}
variable {α β : Type} [DecidableEq α] {ke : α → Value} {ve : β → Value} {L left : List (α × β)} {g : Nat}

/-! plain laws of entries -/
theorem findNow_look {dk : TypeDesc} (hk : ∀ a, MapKept.IsKey dk (ke a)) (hi : ∀ a b, ke a = ke b → a = b) (k : α) : ∀ (es : List MapEntry) (L : List (α × β)) (i : Nat), es.map (fun e => (e.key, e.val)) = L.map (fun p => (ke p.1, ve p.2)) →
    (lookM L k = none ∧ Instr.findNow dk (ke k) es i = some none) ∨ ∃ v j, lookM L k = some v ∧ Instr.findNow dk (ke k) es i = some (some (i + j, ve v)) ∧ L[j]?.map (·.1) = some k ∧ ∀ (j' : Nat), j' < j → L[j']?.map (·.1) ≠ some k
  | [], [], i, _ => .inl ⟨rfl, rfl⟩
  | [], _ :: _, _, h => by simp at h
  | _ :: _, [], _, h => by simp at h
  | e :: es, p :: L, i, h => by
    simp only [List.map_cons, List.cons.injEq, Prod.mk.injEq] at h
    obtain ⟨⟨h1, h2⟩, h3⟩ := h
    obtain ⟨r, hr, hiff⟩ := MapKept.sameNow_of_keys (hk k) (hk p.1)
    by_cases e1 : p.1 = k
    · refine .inr ⟨p.2, 0, by simp [lookM, e1], ?_, by simp [e1], fun j' h => by omega⟩
      have : r = true := hiff.2 (by rw [e1])
      subst this
      simp [Instr.findNow, h1, hr, h2]
    · have : r = false := by
        cases r with
        | false => rfl
        | true => exact absurd (hi _ _ (hiff.1 rfl)).symm e1
      subst this
      have hf : Instr.findNow dk (ke k) (e :: es) i = Instr.findNow dk (ke k) es (i + 1) := by simp [Instr.findNow, h1, hr]
      rw [hf]
      rcases findNow_look hk hi k es L (i + 1) h3 with ⟨a1, a2⟩ | ⟨v, j, a1, a2, a3, a4⟩
      · exact .inl ⟨by simp [lookM, e1, a1], a2⟩
      · refine .inr ⟨v, j + 1, by simp [lookM, e1, a1], by rw [a2]; congr 3; omega, by simpa using a3, fun j' hj' => ?_⟩
        cases j' with
        | zero => simpa using e1
        | succ j' => simpa using a4 j' (by omega)
theorem look_put_same (k : α) (v : β) : ∀ L : List (α × β), lookM (putM L k v) k = some v
  | [] => by simp [putM, lookM]
  | p :: L => by
    unfold putM
    split
    · simp [lookM]
    · rename_i hne; simp [lookM, hne, look_put_same k v L]
theorem look_put_ne {k k' : α} (v : β) (h : k ≠ k') : ∀ L : List (α × β), lookM (putM L k v) k' = lookM L k'
  | [] => by simp [putM, lookM, h]
  | p :: L => by
    unfold putM
    split
    · rename_i e; simp [lookM, e, h]
    · simp [lookM, look_put_ne v h L]
theorem putM_new {k : α} {v : β} : ∀ {L : List (α × β)}, lookM L k = none → putM L k v = L ++ [(k, v)]
  | [], _ => rfl
  | p :: L, h => by
    unfold lookM at h
    split at h
    · cases h
    · rename_i hne; simp [putM, hne, putM_new h]
theorem putM_old {k : α} {v : β} : ∀ {L : List (α × β)} {j : Nat}, L[j]?.map (·.1) = some k → (∀ (j' : Nat), j' < j → L[j']?.map (·.1) ≠ some k) → putM L k v = L.set j (k, v)
  | [], j, h, _ => by simp at h
  | p :: L, 0, h, _ => by simp at h; simp [putM, h]
  | p :: L, j + 1, h, h2 => by
    have := h2 0 (by omega)
    simp at this
    simp [putM, this, putM_old (L := L) (j := j) (by simpa using h) (fun j' hj' => by simpa using h2 (j' + 1) (by omega))]
theorem lookL_none_mem {k : α} : ∀ {L : List (α × β)}, lookM L k = none → ∀ p ∈ L, p.1 ≠ k
  | [], _, p, hp => by cases hp
  | q :: L, h, p, hp => by
    unfold lookM at h
    split at h
    · cases h
    · rename_i hne
      rcases List.mem_cons.1 hp with rfl | hp
      · exact hne
      · exact lookL_none_mem h p hp
theorem MapIs.len {es : Array MapEntry} {clock : Nat} (h : MapIs ke ve L es clock) : es.size = L.length := by
  have := congrArg List.length h.eq
  simpa using this
theorem MapIs.at_ {es : Array MapEntry} {clock : Nat} (h : MapIs ke ve L es clock) {j : Nat} {e : MapEntry} (he : es[j]? = some e) : ∃ p, L[j]? = some p ∧ e.key = ke p.1 ∧ e.val = ve p.2 := by
  have := congrArg (·[j]?) h.eq
  simp only [List.getElem?_map, Array.getElem?_toList, he, Option.map_some] at this
  cases hp : L[j]? with
  | none => rw [hp] at this; simp at this
  | some p => rw [hp] at this; simp at this; exact ⟨p, rfl, this.1, this.2⟩
theorem MapIs.push {es : Array MapEntry} {clock : Nat} (h : MapIs ke ve L es clock) (hi : ∀ a b, ke a = ke b → a = b) {k : α} {v : β} (hn : lookM L k = none) : MapIs ke ve (putM L k v) (es.push ⟨ke k, ve v, clock⟩) (clock + 1) := by
  obtain ⟨h1, h2, h3⟩ := h.st
  refine ⟨⟨fun x hx => ?_, ?_, ?_⟩, by simp [putM_new hn, h.eq]⟩
  · simp at hx
    rcases hx with hx | rfl
    · have := h1 x (by simpa using hx); omega
    · exact Nat.lt_succ_self _
  · simp only [Array.toList_push, List.map_append, List.map_cons, List.map_nil]
    rw [List.nodup_append]
    refine ⟨h2, by simp, fun a ha b hb => ?_⟩
    simp at hb; subst hb
    obtain ⟨x, hx, rfl⟩ := List.mem_map.1 ha
    have := h1 x hx; omega
  · simp only [Array.toList_push, List.map_append, List.map_cons, List.map_nil]
    rw [List.nodup_append]
    refine ⟨h3, by simp, fun a ha b hb e => ?_⟩
    simp at hb; subst hb; subst e
    obtain ⟨x, hx, e⟩ := List.mem_map.1 ha
    obtain ⟨j, hj, rfl⟩ := List.getElem_of_mem hx
    obtain ⟨p, hp, e1, _⟩ := h.at_ (j := j) (e := es[j]) (by simp)
    have e' : ke p.1 = ke k := by rw [← e1]; exact e
    exact lookL_none_mem hn p (List.mem_of_getElem? hp) (hi _ _ e')
theorem MapIs.modify {es : Array MapEntry} {clock : Nat} (h : MapIs ke ve L es clock) {k : α} {v : β} {j : Nat} (h1 : L[j]?.map (·.1) = some k) (h2 : ∀ (j' : Nat), j' < j → L[j']?.map (·.1) ≠ some k) : MapIs ke ve (putM L k v) (es.modify j fun e => { e with key := ke k, val := ve v }) clock := by
  have hkey : ∀ e, es[j]? = some e → e.key = ke k := fun e he => by
    obtain ⟨p, hp, e1, _⟩ := h.at_ he
    rw [hp] at h1; simp at h1; rw [e1, h1]
  have hb : (es.modify j fun e => { e with key := ke k, val := ve v }).toList.map (·.born) = es.toList.map (·.born) := by
    apply List.ext_getElem?
    intro i
    simp only [List.getElem?_map, Array.getElem?_toList, Array.getElem?_modify]
    split
    · cases es[i]? <;> rfl
    · rfl
  have hk : (es.modify j fun e => { e with key := ke k, val := ve v }).toList.map (·.key) = es.toList.map (·.key) := by
    apply List.ext_getElem?
    intro i
    simp only [List.getElem?_map, Array.getElem?_toList, Array.getElem?_modify]
    split
    · rename_i e; subst e
      cases he : es[j]? with
      | none => rfl
      | some e => simp [hkey e he]
    · rfl
  refine ⟨⟨fun x hx => ?_, by rw [hb]; exact h.st.2.1, by rw [hk]; exact h.st.2.2⟩, ?_⟩
  · have : x.born ∈ (es.modify j fun e => { e with key := ke k, val := ve v }).toList.map (·.born) := List.mem_map_of_mem hx
    rw [hb] at this
    obtain ⟨y, hy, e⟩ := List.mem_map.1 this
    rw [← e]; exact h.st.1 y hy
  · rw [putM_old h1 h2]
    apply List.ext_getElem?
    intro i
    simp only [List.getElem?_map, Array.getElem?_toList, Array.getElem?_modify, List.getElem?_set]
    have := congrArg (·[i]?) h.eq
    simp only [List.getElem?_map, Array.getElem?_toList] at this
    have hlen := h.len
    by_cases e : j = i
    · subst e
      by_cases hj : j < L.length
      · rw [if_pos rfl, if_pos rfl, if_pos hj, Array.getElem?_eq_getElem (by omega)]; rfl
      · rw [if_pos rfl, if_pos rfl, if_neg hj, Array.getElem?_eq_none (by omega)]; rfl
    · rw [if_neg e, if_neg e]; exact this
/-! finding a map in the list -/
class MapAt (g : Nat) (l : List Assn) {α β : outParam Type} (ke : outParam (α → Value)) (ve : outParam (β → Value)) (L : outParam (List (α × β))) : Prop where
  find : ∀ h, Has l h → ∃ es clock, h g = some (.map es clock) ∧ MapIs ke ve L es clock
instance {α β : Type} (ke : α → Value) (ve : β → Value) (g : Nat) (L : List (α × β)) (l : List Assn) : MapAt g (mpA ke ve g L :: l) ke ve L := ⟨fun _ ⟨_, _, _, a, _, ⟨es, c, e1, e2⟩, _⟩ => ⟨es, c, a.p _ _ e1, e2⟩⟩
instance {α β : Type} (ke : α → Value) (ve : β → Value) (r g : Nat) (L left : List (α × β)) (l : List Assn) : MapAt g (rgA ke ve r g L left :: l) ke ve L := ⟨fun _ ⟨_, _, _, a, _, ⟨es, c, _, _, _, e1, e2, _⟩, _⟩ => ⟨es, c, a.p _ _ e1, e2⟩⟩
instance {α β : Type} (ke : α → Value) (ve : β → Value) (g : Nat) (L : List (α × β)) (k : α) (b : Nat) (l : List Assn) : MapAt g (msA ke ve g L k b :: l) ke ve L := ⟨fun _ ⟨_, _, _, a, _, ⟨es, c, e1, e2, _⟩, _⟩ => ⟨es, c, a.p _ _ e1, e2⟩⟩
instance {α β : Type} (ke : α → Value) (ve : β → Value) (g : Nat) (L : List (α × β)) (A : Assn) (l : List Assn) [k : MapAt g l ke ve L] : MapAt g (A :: l) ke ve L := ⟨fun _ H => k.find _ H.tail⟩
class TakeM (g : Nat) (l : List Assn) {α β : outParam Type} (ke : outParam (α → Value)) (ve : outParam (β → Value)) (L : outParam (List (α × β))) (r : outParam (List Assn)) : Prop where
  take : ∀ h, Has l h → Has (mpA ke ve g L :: r) h
instance {α β : Type} (ke : α → Value) (ve : β → Value) (g : Nat) (L : List (α × β)) (l : List Assn) : TakeM g (mpA ke ve g L :: l) ke ve L l := ⟨fun _ H => H⟩
instance {α β : Type} (ke : α → Value) (ve : β → Value) (r g : Nat) (L left : List (α × β)) (l : List Assn) : TakeM g (rgA ke ve r g L left :: l) ke ve L l := ⟨fun _ H => Has.weaken (fun _ ⟨es, c, _, _, _, e1, e2, _⟩ => ⟨es, c, e1, e2⟩) H⟩
instance {α β : Type} (ke : α → Value) (ve : β → Value) (g : Nat) (L : List (α × β)) (A : Assn) (l r : List Assn) [k : TakeM g l ke ve L r] : TakeM g (A :: l) ke ve L (A :: r) := ⟨fun _ ⟨h1, h2, d, a, b, e, H⟩ => Has.swap ⟨h1, h2, d, a, b, e, k.take _ H⟩⟩
instance {α β : Type} (ke : α → Value) (ve : β → Value) (r g : Nat) (L left : List (α × β)) (p : α × β) (l : List Assn) : MapAt g (reA ke ve r g L left p :: l) ke ve L := ⟨fun _ ⟨_, _, _, a, _, ⟨es, c, _, _, _, e1, e2, _⟩, _⟩ => ⟨es, c, a.p _ _ e1, e2⟩⟩
theorem re_rg {α β : Type} {ke : α → Value} {ve : β → Value} {r g : Nat} {L left : List (α × β)} {p : α × β} (h : Piece) : reA ke ve r g L left p h → rgA ke ve r g L left h := fun ⟨es, c, seen, e, h1, h2, h3, h4, h6, _⟩ => ⟨es, c, _, c, h1, h2, h3, h4, Nat.le_refl _, h6⟩
instance {α β : Type} (ke : α → Value) (ve : β → Value) (r g : Nat) (L left : List (α × β)) (p : α × β) (l : List Assn) : TakeA (rgA ke ve r g L left) (reA ke ve r g L left p :: l) l := ⟨fun _ H => Has.weaken re_rg H⟩
instance {α β : Type} (ke : α → Value) (ve : β → Value) (r g : Nat) (L left : List (α × β)) (p : α × β) (l : List Assn) : TakeA (mpA ke ve g L) (reA ke ve r g L left p :: l) l := ⟨fun _ H => Has.weaken (fun _ ⟨es, c, _, _, _, e1, e2, _⟩ => ⟨es, c, e1, e2⟩) H⟩
instance {α β : Type} (ke : α → Value) (ve : β → Value) (r g : Nat) (L left : List (α × β)) (p : α × β) (l : List Assn) : TakeM g (reA ke ve r g L left p :: l) ke ve L l := ⟨fun _ H => Has.weaken (fun _ ⟨es, c, _, _, _, e1, e2, _⟩ => ⟨es, c, e1, e2⟩) H⟩
/-- Block r is an iterator with an entry at hand. -/
class EntAt (r : Nat) (l : List Assn) {α β : outParam Type} (ke : outParam (α → Value)) (ve : outParam (β → Value)) (p : outParam (α × β)) : Prop where
  find : ∀ h, Has l h → ∃ g L left, ∃ h1, Piece.le h1 h ∧ reA ke ve r g L left p h1
instance {α β : Type} (ke : α → Value) (ve : β → Value) (r g : Nat) (L left : List (α × β)) (p : α × β) (l : List Assn) : EntAt r (reA ke ve r g L left p :: l) ke ve p := ⟨fun _ ⟨h1, _, _, a, _, e, _⟩ => ⟨g, L, left, h1, a, e⟩⟩
instance {α β : Type} (ke : α → Value) (ve : β → Value) (r : Nat) (p : α × β) (A : Assn) (l : List Assn) [k : EntAt r l ke ve p] : EntAt r (A :: l) ke ve p := ⟨fun h H => by
  obtain ⟨h1, h2, d, a, b, e, H2⟩ := H
  obtain ⟨g, L, left, h3, hle, e3⟩ := k.find _ H2
  exact ⟨g, L, left, h3, hle.le_trans b, e3⟩⟩
/-- Ranged over no more. -/
instance {α β : Type} (ke : α → Value) (ve : β → Value) (r g : Nat) (L left : List (α × β)) (l : List Assn) : TakeA (mpA ke ve g L) (rgA ke ve r g L left :: l) l := ⟨fun _ H => Has.weaken (fun _ ⟨es, c, _, _, _, e1, e2, _⟩ => ⟨es, c, e1, e2⟩) H⟩

theorem Own.mapAt {w : World} {α β : Type} {ke : α → Value} {ve : β → Value} {g : Nat} {L : List (α × β)} (H : Own B w l) [k : MapAt g l ke ve L] : ∃ es clock, w.heap[g]? = some (.map es clock) ∧ MapIs ke ve L es clock := by
  obtain ⟨h, _, hl, e⟩ := H.has
  obtain ⟨es, c, e1, e2⟩ := k.find _ e
  exact ⟨es, c, hl.p _ _ e1, e2⟩
theorem Own.takeM {w : World} {α β : Type} {ke : α → Value} {ve : β → Value} {g : Nat} {L : List (α × β)} (H : Own B w l) [k : TakeM g l ke ve L r] : Own B w (mpA ke ve g L :: r) := H.map k.take
theorem Own.mapHead {w : World} (H : Own B w (mpA ke ve g L :: l)) : ∃ es clock, w.heap[g]? = some (.map es clock) ∧ MapIs ke ve L es clock := H.mapAt
theorem kept_setObj (w : World) (g : Nat) (o : Obj) : Kept [g] w { w with heap := w.heap.setIfInBounds g o } := by
  refine ⟨rfl, rfl, rfl, by simp, fun k hk hn => ?_⟩
  show (w.heap.setIfInBounds g o)[k]? = _
  rw [Array.getElem?_setIfInBounds, if_neg (fun e => hn (by simp [e]))]
theorem Own.setMap {w : World} {A A' : Assn} (H : Own B w (A :: l)) {o : Obj} (hA : ∀ h, A h → ∃ o', h g = some o') (hA' : ∀ h h1 : Piece, A h1 → h g = some o → (∀ b o', h1 b = some o' → b ≠ g → h b = some o') → A' h) : Own B { w with heap := w.heap.setIfInBounds g o } (A' :: l) := by
  have hb : ∃ o', w.heap[g]? = some o' := by
    obtain ⟨h, _, hl, h1, _, _, a1, _, hA1, _⟩ := H.has
    obtain ⟨o', e⟩ := hA _ hA1
    exact ⟨o', hl.p _ _ (a1.p _ _ e)⟩
  obtain ⟨o', hb⟩ := hb
  have hlt : g < w.heap.size := (Array.getElem?_eq_some_iff.1 hb).1
  refine Own.kept (fp := [g]) H (kept_setObj w g o) (fun h e g' hg => by simp at hg; subst hg; exact hA _ e) (fun h1 h hA1 _ e1 e2 => hA' h h1 hA1 ?_ fun b o' hb hne => e2 b o' hb (by simpa using hne))
  have := e1 g (.inl (by simp))
  rw [this]
  show (w.heap.setIfInBounds g o)[g]? = _
  rw [Array.getElem?_setIfInBounds, if_pos rfl, if_pos hlt]

theorem mapOk_sub {t : TypeId} {z : Value} (M : MapOk P t ke z) (w : World) (k : α) (e : Bool) : ∃ kt et, P.underlying t = some (.map kt et) ∧ (Instr.checkKey e 10000 kt (ke k)).run P w = .ok () w ∧ (zeroValue et).run P w = .ok z w ∧ ∀ (es : List MapEntry) (L : List (α × β)), es.map (fun e => (e.key, e.val)) = L.map (fun p => (ke p.1, ve p.2)) →
    (lookM L k = none ∧ (Instr.findKey kt (ke k) es).run P w = .ok none w) ∨ ∃ v j, lookM L k = some v ∧ (Instr.findKey kt (ke k) es).run P w = .ok (some (j, ve v)) w ∧ L[j]?.map (·.1) = some k ∧ ∀ (j' : Nat), j' < j → L[j']?.map (·.1) ≠ some k := by
  obtain ⟨kt, et, dk, h1, h2, h3, h4⟩ := M.ex
  refine ⟨kt, et, h1, MapKept.run_checkKey h2 (h3 k) e 9999, ?_, fun es L he => ?_⟩
  · cases hi : P.info? et with
    | none => rw [hi] at h4; cases h4
    | some i => rw [hi] at h4; simp at h4; simp [zeroValue, typeInfo, hi, h4]
  · rcases findNow_look (ve := ve) h3 M.inj k es L 0 he with ⟨a1, a2⟩ | ⟨v, j, a1, a2, a3, a4⟩
    · exact .inl ⟨a1, MapKept.run_findKey h2 a2⟩
    · rw [Nat.zero_add] at a2
      exact .inr ⟨v, j, a1, MapKept.run_findKey h2 a2, a3, a4⟩

/-! the rules -/
theorem Ef.makeMap {t : TypeId} (α β : Type) (ke : α → Value) (ve : β → Value) (h : ∀ g, K (.map (some g)) (mpA ke ve g ([] : List (α × β)) :: l)) : Ef P B n ⟨d, .makeMap t none, ty, pos, af, gd⟩ f l K := ⟨fun w next Q ho hk => by
  have hr : (Instr.makeMap t none).run P w = .ok (.map (some w.heap.size)) (w.alloc (.map #[] 0)) := by simp [Instr.makeMap]
  unfold Oper.wp execOp
  simp only [eval_act', Option.map_none, Sem.run_bind, hr, Sem.run_pure, Result.andThen_ok]
  refine hk _ _ _ (h _) (Own.fresh ho ((Kept.refl _ _).alloc _) fun hh e => ⟨#[], 0, ?_, ⟨MapKept.stamped_empty 0, rfl⟩⟩)
  rw [e _ (Nat.le_refl _)]
  exact heap_alloc_new w _⟩
theorem run_lookup {t : TypeId} {z : Value} (M : MapOk P t ke z) (w : World) (k : α) (c : Bool) {es : Array MapEntry} {clock : Nat} (hb : w.heap[g]? = some (.map es clock)) (hm : MapIs ke ve L es clock) :
    (Instr.lookup t (.map (some g)) (ke k) c).run P w = .ok (if c then .tuple #[(match lookM L k with | some v => ve v | none => z), .bool (lookM L k).isSome] else (match lookM L k with | some v => ve v | none => z)) w := by
  obtain ⟨kt, et, h1, h2, h3, h4⟩ := mapOk_sub (ve := ve) M w k es.isEmpty
  rcases h4 es.toList L hm.eq with ⟨a1, a2⟩ | ⟨v, j, a1, a2, _, _⟩
  · rw [a1]
    simp [Instr.lookup, run_underlying h1, MapKept.run_getObj_map hb, h2, a2, h3]
  · rw [a1]
    simp [Instr.lookup, run_underlying h1, MapKept.run_getObj_map hb, h2, a2]
theorem Qt.look1S {t : TypeId} {x y : Operand} {z : Value} (M : MapOk P t ke z) (hx : ev n f x = some (.map (some g))) (k : α) (hy : ev n f y = some (ke k)) [kk : MapAt g S ke ve L] {v : β} (hv : lookM L k = some v) : Qt P B n S ⟨d, .lookup t x y false, ty, pos, af, gd⟩ f (ve v) := ⟨fun w ho => by
  obtain ⟨es, c, hb, hm⟩ := ho.mapAt (g := g)
  have := run_lookup M w k false hb hm
  simp only [hv, Bool.false_eq_true, if_false] at this
  simp [execOp, evu_eq hx, evu_eq hy, this]⟩
theorem Qt.look1N {t : TypeId} {x y : Operand} {z : Value} (M : MapOk P t ke z) (hx : ev n f x = some (.map (some g))) (k : α) (hy : ev n f y = some (ke k)) [kk : MapAt g S ke ve L] (hv : lookM L k = none) : Qt P B n S ⟨d, .lookup t x y false, ty, pos, af, gd⟩ f z := ⟨fun w ho => by
  obtain ⟨es, c, hb, hm⟩ := ho.mapAt (g := g)
  have := run_lookup M w k false hb hm
  simp only [hv, Bool.false_eq_true, if_false] at this
  simp [execOp, evu_eq hx, evu_eq hy, this]⟩
/-- A key's value, or what stands for none (d). -/
theorem Qt.look1 {t : TypeId} {x y : Operand} {z : Value} (M : MapOk P t ke z) (hx : ev n f x = some (.map (some g))) (k : α) (hy : ev n f y = some (ke k)) [kk : MapAt g S ke ve L] (v0 : β) (hz : z = ve v0) : Qt P B n S ⟨d, .lookup t x y false, ty, pos, af, gd⟩ f (ve ((lookM L k).getD v0)) := by
  cases h : lookM L k with
  | none => rw [Option.getD_none, ← hz]; exact Qt.look1N M hx k hy h
  | some v => exact Qt.look1S M hx k hy h
theorem run_mapUpdate {t : TypeId} {z : Value} (M : MapOk P t ke z) (w : World) (k : α) (v : β) {es : Array MapEntry} {clock : Nat} (hb : w.heap[g]? = some (.map es clock)) (hm : MapIs ke ve L es clock) :
    ∃ es' c', (Instr.mapUpdate t (.map (some g)) (ke k) (ve v)).run P w = .ok () { w with heap := w.heap.setIfInBounds g (.map es' c') } ∧ MapIs ke ve (putM L k v) es' c' := by
  obtain ⟨kt, et, h1, h2, h3, h4⟩ := mapOk_sub (ve := ve) M w k false
  obtain ⟨kt', et', dk, u1, u2, u3, u4⟩ := M.ex
  rcases h4 es.toList L hm.eq with ⟨a1, a2⟩ | ⟨v0, j, a1, a2, a3, a4⟩
  · refine ⟨_, _, ?_, hm.push M.inj a1⟩
    simp [Instr.mapUpdate, run_underlying h1, MapKept.run_getObj_map hb, h2, a2, MapKept.run_setObj_map _ hb]
  · have hj : ∃ e, es[j]? = some e ∧ e.key = ke k := by
      cases hq : es[j]? with
      | none =>
        cases hp : L[j]? with
        | none => rw [hp] at a3; cases a3
        | some p =>
          have := (List.getElem?_eq_some_iff.1 hp).1
          have := hm.len
          have := Array.getElem?_eq_none_iff.1 hq
          omega
      | some e =>
        obtain ⟨p, hp, e1, _⟩ := hm.at_ hq
        rw [hp] at a3; simp at a3
        exact ⟨e, rfl, by rw [e1, a3]⟩
    obtain ⟨e, hq, hek⟩ := hj
    refine ⟨_, _, ?_, hm.modify a3 a4⟩
    simp [Instr.mapUpdate, run_underlying h1, MapKept.run_getObj_map hb, h2, a2, hq, hek, MapKept.run_keyThatStays (u3 k), MapKept.run_setObj_map _ hb]
theorem Ef.mapUpdate {t : TypeId} {x y v : Operand} {z : Value} (M : MapOk P t ke z) (hx : ev n f x = some (.map (some g))) (k : α) (hy : ev n f y = some (ke k)) (b : β) (hv : ev n f v = some (ve b)) [kk : TakeM g l ke ve L r] (h : K (.tuple #[]) (mpA ke ve g (putM L k b) :: r)) : Ef P B n ⟨d, .mapUpdate t x y v, ty, pos, af, gd⟩ f l K := ⟨fun w next Q ho hk => by
  have ho2 := ho.takeM (k := kk)
  obtain ⟨es, c, hb, hm⟩ := ho2.mapHead
  obtain ⟨es', c', hr, hm'⟩ := run_mapUpdate M w k b hb hm
  unfold Oper.wp execOp
  simp only [eval_act', evu_eq hx, evu_eq hy, evu_eq hv, Sem.run_bind, hr, Sem.run_pure, Result.andThen_ok]
  exact hk _ _ _ h (ho2.setMap (fun h ⟨es, c, e, _⟩ => ⟨_, e⟩) fun h h1 _ e _ => ⟨es', c', e, hm'⟩)⟩
end
end Go.Proofs.Ytefognjcognknaa

/- btree's laws: BtreeDrains. Conditions: sizes; that the keys and the turns can be read. -/
set_option linter.unusedSimpArgs false
set_option linter.unusedVariables false
namespace Go.Proofs.Ytefognjcognknaa
open Go.RowKit
theorem Dr.ok : MapOk Try.prog 52 kT (.bool false) := MapOk.mk3 9 4 .string Try.underlying52 Try.underlying9 (fun _ => trivial) (by kernel_rfl) strV_inj
theorem SrcOf.tailR {P : Program} {B : Base} {l : List Assn} {tx sz g m c lo cap : Nat} {C : List Value} [k : Rd B g l C] (hk : sliceZ P tx sz = true) (hl : C.length = m * sz) (hlo : lo ≤ m) (hc : m ≤ c) (h1 : ∀ x ∈ C, x.oneCell' = true) : SrcOf P B l sz tx (.slice (offA (some ⟨g, 0, none⟩) c lo sz) (m - lo) cap) (m - lo) (C.drop (lo * sz)) := by
  have h2 : ∀ x ∈ C.drop (lo * sz), x.oneCell' = true := fun x hx => h1 x (List.mem_of_mem_drop hx)
  have h3 : (C.drop (lo * sz)).length = (m - lo) * sz := by rw [List.length_drop, hl, Nat.sub_mul]
  by_cases e : c = lo
  · have : offA (some ⟨g, 0, none⟩) c lo sz = some ⟨g, 0, none⟩ := by unfold offA; rw [if_pos e]
    rw [this]
    obtain rfl : m = lo := by omega
    refine SrcOf.cells (g := g) (o := 0) hk (fun j v h => ?_) h3 h2
    have : C.drop (m * sz) = [] := by rw [List.drop_eq_nil_iff]; omega
    rw [this] at h; simp at h
  · rw [offA_some e]
    refine SrcOf.cells (g := g) (o := 0 + lo * sz) hk (fun j v h => ?_) h3 h2
    rw [List.getElem?_drop] at h
    rw [Nat.zero_add]; exact h
theorem SrcOf.headR {P : Program} {B : Base} {l : List Assn} {tx sz g m hi cap : Nat} {C : List Value} [k : Rd B g l C] (hk : sliceZ P tx sz = true) (hl : C.length = m * sz) (hhi : hi ≤ m) (h1 : ∀ x ∈ C, x.oneCell' = true) : SrcOf P B l sz tx (.slice (some ⟨g, 0, none⟩) hi cap) hi (C.take (hi * sz)) := by
  refine SrcOf.cells (g := g) (o := 0) hk (fun j v h => ?_) ?_ (fun x hx => h1 x (List.mem_of_mem_take hx))
  · rw [List.getElem?_take] at h
    split at h
    · rw [Nat.zero_add]; exact h
    · cases h
  · rw [List.length_take, hl]
    exact Nat.min_eq_left (Nat.mul_le_mul_right _ hhi)
theorem shape_nil {H o : Nat} {T0 : LT H} (ho : 2 ≤ o) (hok : okT o H true T0) (hL : toL H T0 = []) : shapeL H [T0] = [[0]] := by
  have h1 := okT_h ho hok
  rw [hL] at h1
  obtain rfl : H = 0 := by simpa using h1
  have h2 : LT.kl 0 T0 = (toL 0 T0).length := rfl
  rw [shapeL]
  show [[LT.kl 0 T0]] = [[0]]
  rw [h2, hL]; rfl
theorem drain_in {l : List Str} {at_ : Nat} (h : at_ < l.length) {L : List KV} (hin : ∀ p ∈ L, p.1 ∈ l) : ∀ p ∈ cutL l[at_] L, p.1 ∈ l.take at_ ++ l.drop (at_ + 1) := fun p hp => by
  obtain ⟨h1, h2⟩ := List.mem_filter.1 hp
  have h3 := hin p h1
  have e : l = l.take at_ ++ l[at_] :: l.drop (at_ + 1) := by rw [List.getElem_cons_drop, List.take_append_drop]
  rw [e] at h3
  rcases List.mem_append.1 h3 with h | h
  · exact List.mem_append_left _ h
  · rcases List.mem_cons.1 h with h | h
    · simp [← h] at h2
    · exact List.mem_append_right _ h
theorem drain_put {L : List KV} {M : List (Str × Bool)} {key : Str} {v : Int} (hu : Up L) (h : ∀ k, (lookM M k).getD false = (getL L k).isSome) (k : Str) : (lookM (putM M key true) k).getD false = (getL (putL key v L) k).isSome := by
  by_cases e : key = k
  · subst e
    rw [look_put_same]
    exact (getL_isSome.2 ⟨v, (putL_iff hu).2 (.inl rfl)⟩).symm
  · rw [look_put_ne _ e, h k]
    apply Bool.eq_iff_iff.2
    rw [getL_isSome, getL_isSome]
    constructor
    · rintro ⟨w, hw⟩; exact ⟨w, (putL_iff hu).2 (.inr ⟨hw, fun q => e q.symm⟩)⟩
    · rintro ⟨w, hw⟩
      rcases (putL_iff hu).1 hw with q | q
      · exact absurd (congrArg Prod.fst q).symm e
      · exact ⟨w, q.1⟩
theorem drain_cut {L : List KV} {M : List (Str × Bool)} {key : Str} (h : ∀ k, (lookM M k).getD false = (getL L k).isSome) (k : Str) : (lookM (putM M key false) k).getD false = (getL (cutL key L) k).isSome := by
  by_cases e : key = k
  · subst e
    rw [look_put_same]
    symm
    apply Bool.eq_false_iff.2
    intro q
    obtain ⟨w, hw⟩ := getL_isSome.1 q
    have := (List.mem_filter.1 hw).2
    simp at this
  · rw [look_put_ne _ e, h k]
    apply Bool.eq_iff_iff.2
    rw [getL_isSome, getL_isSome]
    constructor
    · rintro ⟨w, hw⟩; exact ⟨w, List.mem_filter.2 ⟨hw, by simpa using fun q => e q.symm⟩⟩
    · rintro ⟨w, hw⟩; exact ⟨w, (List.mem_filter.1 hw).1⟩
end Go.Proofs.Ytefognjcognknaa

/- btree's laws: BtreeDrains, the walk. Conditions: sizes; that the keys and the turns can be read. -/
set_option linter.unusedSimpArgs false
set_option linter.unusedVariables false
namespace Go.Proofs.Ytefognjcognknaa
open Go.RowKit
theorem nil_of_in {L : List KV} (h : ∀ p ∈ L, p.1 ∈ ([] : List Str)) : L = [] := by
  rcases L with _ | ⟨x, L⟩
  · rfl
  · exact absurd (h x (List.mem_cons_self ..)) (by simp)
theorem one_shape {rs : List Rw} (h : rs.map (·.2.2) = [[0]]) : ∃ p c, rs = [(p, c, [0])] := by
  rcases rs with _ | ⟨⟨p, c, l⟩, _ | ⟨y, rs⟩⟩
  · simp at h
  · simp at h; subst h; exact ⟨p, c, rfl⟩
  · simp at h
abbrev kBo (b : Bool) : Value := .bool b
set_option maxHeartbeats 8000000 in
set_option maxRecDepth 100000 in
theorem Bu.drains (B : Base) (o : Int) (v u : Value) (keys : List Str) (tu : List Int) (hv : RoS B v (keys.map kT)) (hu : RoS B u (tu.map iV)) (hn : keys.length < 2 ^ 36) (hn2 : tu.length < 2 ^ 36) : Fn Try.prog B 6 #[.int .i64 o, v, u] [] (fun u l => u = .bool true ∧ l = []) := by
 obtain ⟨ka, kc, rfl⟩ : ∃ a cap, v = .slice a keys.length cap := by obtain ⟨a, c, e, _⟩ := hv; exact ⟨a, c, by rw [e]; simp⟩
 obtain ⟨ta, tc, rfl⟩ : ∃ a cap, u = .slice a tu.length cap := by obtain ⟨a, c, e, _⟩ := hu; exact ⟨a, c, by rw [e]; simp⟩
 refine Fn.enter3 124 Try.func6 rfl rfl (Nat.le_of_ble_eq_true rfl) (fun F => ?_)
 try simp only [List.cons_append, List.nil_append]
 refine T.seq ?_
 refine T.region ?_
 refine LW.q rfl (Qt.assign rfl) ?_
 refine LW.done ?_
 refine T.seq ?_
 refine T.seq ?_
 refine T.region ?_
 refine LW.e rfl (Ef.call (Bu.awake B) Try.func13 rfl rfl rfl ?_)
 rintro _ _ ⟨rfl, rfl⟩
 try simp only [List.cons_append, List.nil_append]
 first | refine LW.q rfl (Qt.notP rfl) ?_ | refine LW.q rfl (Qt.notB rfl) ?_
 refine LW.done ?_
 first | refine T.condF rfl ?_ | refine T.condPF rfl (by omega) ?_ | refine T.condBF rfl (by omega) ?_
 by_cases ho : 2 ≤ o ∧ o ≤ 64
 ·
  obtain ⟨na, rfl⟩ : ∃ n : Nat, o = n := ⟨o.toNat, by omega⟩
  refine T.skip ?_
  refine T.seq ?_
  refine T.region ?_
  refine LW.q rfl (Qt.move rfl) ?_
  refine LW.e rfl (Ef.call (Bt.newOk B na (by omega) (by omega)) Try.func14 rfl rfl rfl ?_)
  rintro _ _ ⟨g, rfl, rfl⟩
  try simp only [List.cons_append, List.nil_append]
  refine LW.q rfl (Qt.move rfl) ?_
  refine LW.q rfl (Qt.extr rfl rfl) ?_
  refine LW.q rfl (Qt.extr rfl rfl) ?_
  refine LW.q rfl (Qt.assign rfl) ?_
  refine LW.q rfl (Qt.assign rfl) ?_
  refine LW.done ?_
  refine T.seq ?_
  refine T.seq ?_
  refine T.region ?_
  refine LW.q rfl (Qt.move rfl) ?_
  first | refine LW.q rfl (Qt.eqlNil (by kernel_rfl) rfl rfl) ?_ | refine LW.q rfl (Qt.eqlNN (by kernel_rfl) rfl rfl) ?_
  refine LW.done ?_
  first | refine T.condF rfl ?_ | refine T.condPF rfl (by omega) ?_ | refine T.condBF rfl (by omega) ?_
  refine T.skip ?_
  refine T.seq ?_
  refine T.region ?_
  refine LW.e rfl (Ef.makeMap Str Bool kT kBo ?_)
  rintro gm
  try simp only [List.cons_append, List.nil_append]
  refine LW.q rfl (Qt.assign rfl) ?_
  refine LW.done ?_
  refine T.seq ?_
  refine T.seq ?_
  refine T.region ?_
  refine LW.q rfl (Qt.move rfl) ?_
  refine LW.q rfl (Qt.len (e := 9) (sz := 1) (by kernel_rfl) rfl) ?_
  refine LW.q rfl (Qt.move rfl) ?_
  refine LW.done ?_
  refine T.block ?_
  refine T.loop (fun mz fz lz => ∃ (f0 : Fr) (i : Nat) (L : List KV) (M : List (Str × Bool)), (i ≤ keys.length ∧ Up L ∧ L.length ≤ i ∧ (∀ p ∈ L, p.1 ∈ keys) ∧ ∀ k, (lookM M k).getD false = (getL L k).isSome) ∧ mz = keys.length - i ∧ fz = (upd (upd (upd (upd (upd (upd (upd f0 2 (.slice ta tu.length tc)) 1 (.slice ka keys.length kc)) 7 (pV g)) 9 (.map (some gm))) 31 (.slice ka keys.length kc)) 32 (.int .i64 keys.length)) 33 (.int .i64 i)) ∧ lz = btA g na L :: mpA kT kBo gm M :: F) ?_ ?_
  · refine ⟨_, _, ⟨_, 0, [], [], ⟨Nat.zero_le _, List.Pairwise.nil, Nat.le_refl _, (fun _ h => nomatch h), fun _ => rfl⟩, rfl, (updS rfl (updS rfl (updS rfl (updS rfl (updS rfl (updS rfl (updS rfl rfl))))))), rfl⟩, Sub.any⟩
  ·
   rintro mz fz lz ⟨f0, i, L, M, ⟨hi, hu', hll, hin, hlk⟩, hmz, rfl, rfl⟩
   subst mz
   try simp only [List.cons_append, List.nil_append]
   refine T.seq ?_
   refine T.region ?_
   refine LW.q rfl (Qt.lss rfl rfl) ?_
   refine LW.done ?_
   refine T.seq ?_
   refine T.condP rfl (fun hlt => ?_) (fun hlt => ?_)
   ·
    have hlt' : i < keys.length := by omega
    obtain ⟨b0, o0, rfl, hc0⟩ := (hv.rd []).at (m := keys.length) (by omega)
    refine T.skip ?_
    refine T.seq ?_
    refine T.block ?_
    refine T.seq ?_
    refine T.region ?_
    refine LW.q rfl (Qt.index i (e := 9) (sz := 1) (by kernel_rfl) rfl rfl rfl hlt') ?_
    refine LW.q rfl (Qt.loadW (v := kT keys[i]) (by kernel_rfl) rfl (fun w ho => by have := hc0 i (by simpa using hlt') w (ho.map Sub.any); simpa using this)) ?_
    refine LW.q rfl (Qt.assign rfl) ?_
    refine LW.done ?_
    refine T.seq ?_
    refine T.region ?_
    refine LW.q rfl (Qt.move rfl) ?_
    refine LW.q rfl (Qt.move rfl) ?_
    refine LW.e rfl (Ef.call (Bt.put B g na L keys[i] 7 (by omega)) Try.func15 rfl rfl rfl ?_)
    rintro _ _ ⟨rfl, rfl⟩
    try simp only [List.cons_append, List.nil_append]
    refine LW.done ?_
    refine T.region ?_
    refine LW.q rfl (Qt.move rfl) ?_
    refine LW.q rfl (Qt.move rfl) ?_
    refine LW.e0 rfl (Ef.mapUpdate Dr.ok rfl keys[i] rfl true rfl ?_)
    try simp only [List.cons_append, List.nil_append]
    refine LW.done ?_
    refine T.region ?_
    refine LW.q rfl (Qt.add rfl rfl (wr64 (by omega) (by omega))) ?_
    refine LW.q rfl (Qt.move rfl) ?_
    refine LW.done ?_
    refine ⟨_, ?_, _, ⟨_, i + 1, putL keys[i] 7 L, putM M keys[i] true, ⟨hlt', putL_up hu', by have := putL_le (key := keys[i]) (val := 7) hu'; omega, fun p hp => by rcases (putL_iff hu').1 hp with rfl | h; exact List.getElem_mem _; exact hin p h.1, drain_put hu' hlk⟩, rfl, (updS rfl (updS rfl (updS rfl (updS rfl (updS rfl (updS rfl (updS rfl rfl))))))), rfl⟩, Sub.any⟩
    first | omega | (simp; omega)
   ·
    refine T.exit ?_
    refine T.seq ?_
    refine T.region ?_
    refine LW.e rfl (Ef.empty Lb.elemS ?_)
    rintro g8
    try simp only [List.cons_append, List.nil_append]
    refine LW.q rfl (Qt.move rfl) ?_
    refine LW.e rfl (Ef.append Lb.elemS rfl rfl (SrcOf.rd (m := keys.length) (hv.rd _) (by kernel_rfl) (by simp) (by intro x hx; obtain ⟨y, _, rfl⟩ := List.mem_map.1 hx; rfl)) (by unfold maxLen; omega) (by omega) ?_)
    rintro p c hp
    try simp only [List.cons_append, List.nil_append]
    simp only [Nat.zero_add, List.nil_append]
    refine LW.q rfl (Qt.assign rfl) ?_
    refine LW.done ?_
    refine T.seq ?_
    refine T.seq ?_
    refine T.region ?_
    refine LW.q rfl (Qt.assign rfl) ?_
    refine LW.done ?_
    refine T.block ?_
    refine T.loop (fun mz fz lz => ∃ (f0 : Fr) (i : Nat) (l : List Str) (p : Option Addr) (c : Nat) (L : List KV) (M : List (Str × Bool)), (i + l.length = keys.length ∧ Up L ∧ L.length ≤ keys.length ∧ (∀ p ∈ L, p.1 ∈ l) ∧ ∀ k, (lookM M k).getD false = (getL L k).isSome) ∧ mz = l.length ∧ fz = (upd (upd (upd (upd (upd f0 2 (.slice ta tu.length tc)) 7 (pV g)) 9 (.map (some gm))) 12 (.slice p l.length c)) 13 (.int .i64 i)) ∧ lz = row (.slice p l.length c) 9 1 l.length (l.map kT) :: btA g na L :: mpA kT kBo gm M :: F) ?_ ?_
    · refine ⟨_, _, ⟨_, 0, keys, p, c, L, M, ⟨by omega, hu', by omega, hin, hlk⟩, rfl, (updS rfl (updS rfl (updS rfl (updS rfl (updS rfl rfl))))), rfl⟩, Sub.any⟩
    ·
     rintro mz fz lz ⟨f0, i, l, p, c, L, M, ⟨hi2, hu2, hll2, hin2, hlk2⟩, hmz, rfl, rfl⟩
     subst mz
     try simp only [List.cons_append, List.nil_append]
     refine T.seq ?_
     refine T.seq ?_
     refine T.region ?_
     refine LW.q rfl (Qt.move rfl) ?_
     refine LW.q rfl (Qt.len (e := 9) (sz := 1) (by kernel_rfl) rfl) ?_
     refine LW.q rfl (Qt.gtr rfl rfl) ?_
     refine LW.done ?_
     refine T.condP rfl (fun hgt => ?_) (fun hgt => ?_)
     ·
      have hgt' : 0 < l.length := by omega
      refine T.own fun w0 ho0 => ?_
      obtain ⟨gp, rfl⟩ := (ho0.slice_at (p := p) (m := l.length) (c := c) (k := l.length)).2.1 hgt'
      have hcap := ho0.cap_at (p := some ⟨gp, 0, none⟩) (m := l.length) (c := c)
      clear ho0
      refine T.skip ?_
      refine T.seq ?_
      refine T.block ?_
      refine T.seq ?_
      refine T.region ?_
      refine LW.q rfl (Qt.assign rfl) ?_
      refine LW.done ?_
      refine T.cut (fun fz lz => ∃ (f0 : Fr) (at_ : Nat), (at_ < l.length) ∧ fz = (upd (upd (upd (upd (upd (upd f0 2 (.slice ta tu.length tc)) 7 (pV g)) 9 (.map (some gm))) 12 (.slice (some ⟨gp, 0, none⟩) l.length c)) 13 (.int .i64 i)) 14 (.int .i64 at_)) ∧ lz = row (.slice (some ⟨gp, 0, none⟩) l.length c) 9 1 l.length (l.map kT) :: btA g na L :: mpA kT kBo gm M :: F) ?_ ?_
      ·
       refine T.seq ?_
       refine T.region ?_
       refine LW.q rfl (Qt.move rfl) ?_
       refine LW.q rfl (Qt.move rfl) ?_
       refine LW.q rfl (Qt.len (e := 3) (sz := 1) (by kernel_rfl) rfl) ?_
       refine LW.q rfl (Qt.lss rfl rfl) ?_
       refine LW.q rfl (Qt.move rfl) ?_
       refine LW.split (t := 55) rfl (fun hit => ?_) (fun hit => ?_)
       ·
        try replace hit := of_decide_eq_true hit
        have hit' : i < tu.length := by omega
        obtain ⟨b1, o1, rfl, hc1⟩ := (hu.rd []).at (m := tu.length) (by omega)
        refine LW.q rfl (Qt.move rfl) ?_
        refine LW.q rfl (Qt.move rfl) ?_
        refine LW.q rfl (Qt.index i (e := 3) (sz := 1) (by kernel_rfl) rfl rfl rfl hit') ?_
        refine LW.q rfl (Qt.loadW (v := iV tu[i]) (by kernel_rfl) rfl (fun w ho => by have := hc1 i (by simpa using hit') w (ho.map Sub.any); simpa using this)) ?_
        refine LW.q rfl (Qt.geq rfl rfl) ?_
        refine LW.q rfl (Qt.pick rfl rfl) ?_
        refine LW.done ?_
        refine T.condP rfl (fun hneg => ?_) (fun hneg => ?_)
        ·
         refine T.region ?_
         refine LW.q rfl (Qt.move rfl) ?_
         refine LW.q rfl (Qt.move rfl) ?_
         refine LW.q rfl (Qt.index i (e := 3) (sz := 1) (by kernel_rfl) rfl rfl rfl hit') ?_
         refine LW.q rfl (Qt.loadW (v := iV tu[i]) (by kernel_rfl) rfl (fun w ho => by have := hc1 i (by simpa using hit') w (ho.map Sub.any); simpa using this)) ?_
         refine LW.q rfl (Qt.move rfl) ?_
         refine LW.q rfl (Qt.len (e := 9) (sz := 1) (by kernel_rfl) rfl) ?_
         refine LW.q rfl (Qt.rem (r := ((tu[i].toNat % l.length : Nat) : Int)) rfl rfl (by omega) (by rw [Int.tmod_eq_emod_of_nonneg (by omega), Int.natCast_emod, Int.toNat_of_nonneg (by omega)])) ?_
         refine LW.q rfl (Qt.assign rfl) ?_
         refine LW.done ?_
         exact ⟨_, ⟨_, tu[i].toNat % l.length, Nat.mod_lt _ hgt', (updS rfl (updS rfl (updS rfl (updS rfl (updS rfl (updS rfl rfl)))))), rfl⟩, Sub.any⟩
        ·
         refine T.skip ?_
         exact ⟨_, ⟨_, 0, hgt', (updS rfl (updS rfl (updS rfl (updS rfl (updS rfl (updS rfl rfl)))))), rfl⟩, Sub.any⟩
       ·
        try replace hit := of_decide_eq_false hit
        refine LW.s rfl ?_
        refine LW.s rfl ?_
        refine LW.s rfl ?_
        refine LW.s rfl ?_
        refine LW.s rfl ?_
        refine LW.q rfl (Qt.pick rfl rfl) ?_
        refine LW.done ?_
        first | refine T.condF rfl ?_ | refine T.condPF rfl (by omega) ?_ | refine T.condBF rfl (by omega) ?_
        refine T.skip ?_
        exact ⟨_, ⟨_, 0, hgt', (updS rfl (updS rfl (updS rfl (updS rfl (updS rfl (updS rfl rfl)))))), rfl⟩, Sub.any⟩
      rintro fz lz ⟨f0, at_, hat, rfl, rfl⟩
      try simp only [List.cons_append, List.nil_append]
      refine T.seq ?_
      refine T.region ?_
      refine LW.q rfl (Qt.move rfl) ?_
      refine LW.q rfl (Qt.move rfl) ?_
      refine LW.q rfl (Qt.index at_ (e := 9) (sz := 1) (by kernel_rfl) rfl rfl rfl hat) ?_
      refine LW.q rfl (Qt.load (v := kT l[at_]) (by kernel_rfl) rfl (map_at _ _ _ hat)) ?_
      refine LW.q rfl (Qt.assign rfl) ?_
      refine LW.done ?_
      refine T.seq ?_
      refine T.draw 10 ([row (.slice (some ⟨gp, 0, none⟩) l.length c) 9 1 l.length (l.map kT)]) (by kernel_rfl) (Nat.le_of_ble_eq_true rfl) (by kernel_rfl) ?_
      refine RW.q 1 rfl rfl (by kernel_rfl) Sub.any (Qt.move rfl) ?_
      refine RW.q 2 rfl rfl (by kernel_rfl) Sub.any (Qt.move rfl) ?_
      refine RW.q 3 rfl rfl (by kernel_rfl) Sub.any (Qt.slice_nsn at_ (e := 9) (sz := 1) (by kernel_rfl) rfl rfl rfl (by omega)) ?_
      refine RW.q 5 rfl rfl (by kernel_rfl) Sub.any (Qt.move rfl) ?_
      refine RW.q 6 rfl rfl (by kernel_rfl) Sub.any (Qt.move rfl) ?_
      refine RW.q 7 rfl rfl (by kernel_rfl) Sub.any (Qt.add rfl rfl (wr64 (by omega) (by omega))) ?_
      refine RW.q 8 rfl rfl (by kernel_rfl) Sub.any (Qt.slice_snn (at_ + 1) (e := 9) (sz := 1) (by kernel_rfl) rfl rfl (by omega) (by omega)) ?_
      refine RW.one 0 (by kernel_rfl) ?_
      refine RO.eS rfl rfl (Ef.empty Lb.elemS ?_)
      rintro g14
      try simp only [List.cons_append, List.nil_append]
      refine ⟨Sub.any, ?_⟩
      refine RW.one 4 (by kernel_rfl) ?_
      refine RO.eS rfl rfl (Ef.append Lb.elemS rfl rfl (SrcOf.headR (m := l.length) (by kernel_rfl) (by simp) (by omega) one_kT) (by unfold maxLen; omega) (by omega) ?_)
      rintro p1 c1 hp1
      try simp only [List.cons_append, List.nil_append]
      refine ⟨Sub.any, ?_⟩
      refine RW.one 9 (by kernel_rfl) ?_
      refine RO.r rfl rfl (by kernel_rfl) (Ef.append Lb.elemS rfl rfl (SrcOf.tailR (m := l.length) (by kernel_rfl) (by simp) (by omega) hcap one_kT) (by unfold maxLen; omega) (by omega) ?_)
      rintro p2 c2 hp2
      try simp only [List.cons_append, List.nil_append]
      simp only [Nat.zero_add, List.nil_append, Nat.mul_one]
      rw [← List.map_take, ← List.map_drop, ← List.map_append]
      have hl2 : at_ + (l.length - (at_ + 1)) = (l.take at_ ++ l.drop (at_ + 1)).length := by simp; omega
      have hl3 : (l.take at_ ++ l.drop (at_ + 1)).length + 1 = l.length := by simp; omega
      rw [hl2]
      refine RW.done (by rfl) ?_
      simp only [List.drop_succ_cons, List.drop_zero, List.drop_nil]
      refine LW.q rfl (Qt.assign rfl) ?_
      refine LW.done ?_
      refine T.seq ?_
      refine T.seq ?_
      refine T.draw 7 ([mpA kT kBo gm M]) (by kernel_rfl) (Nat.le_of_ble_eq_true rfl) (by kernel_rfl) ?_
      refine RW.q 0 rfl rfl (by kernel_rfl) Sub.any (Qt.move rfl) ?_
      refine RW.q 1 rfl rfl (by kernel_rfl) Sub.any (Qt.move rfl) ?_
      refine RW.q 3 rfl rfl (by kernel_rfl) Sub.any (Qt.move rfl) ?_
      refine RW.q 4 rfl rfl (by kernel_rfl) Sub.any (Qt.move rfl) ?_
      refine RW.q 5 rfl rfl (by kernel_rfl) Sub.any (Qt.look1 Dr.ok rfl l[at_] rfl false rfl) ?_
      refine RW.one 2 (by kernel_rfl) ?_
      refine RO.eS rfl rfl (Ef.call (Bt.Cut B g na L l[at_] (by omega)) Try.func19 rfl rfl rfl ?_)
      rintro _ _ ⟨rfl, rfl⟩
      try simp only [List.cons_append, List.nil_append]
      refine ⟨Sub.any, ?_⟩
      refine RW.q 6 rfl rfl (by kernel_rfl) Sub.any (Qt.neqB (by kernel_rfl) rfl rfl) ?_
      refine RW.done (by rfl) ?_
      simp only [List.drop_succ_cons, List.drop_zero, List.drop_nil]
      refine LW.done ?_
      first | refine T.condF rfl ?_ | refine T.condPF rfl ((by rw [hlk2]; simp)) ?_ | refine T.condBF rfl ((by rw [hlk2]; simp)) ?_
      refine T.skip ?_
      refine T.seq ?_
      refine T.region ?_
      refine LW.q rfl (Qt.move rfl) ?_
      refine LW.q rfl (Qt.move rfl) ?_
      refine LW.e0 rfl (Ef.mapUpdate Dr.ok rfl l[at_] rfl false rfl ?_)
      try simp only [List.cons_append, List.nil_append]
      refine LW.done ?_
      refine T.seq ?_
      refine T.region ?_
      refine LW.q rfl (Qt.move rfl) ?_
      refine LW.q rfl (Qt.move rfl) ?_
      refine LW.e rfl (Ef.call (Bt.Get B g na (cutL l[at_] L) l[at_] (by have := cutL_le (key := l[at_]) (l := L); omega)) Try.func25 rfl rfl rfl ?_)
      rintro _ _ ⟨rfl, rfl⟩
      try simp only [List.cons_append, List.nil_append]
      refine LW.q rfl (Qt.move rfl) ?_
      refine LW.q rfl (Qt.extr rfl rfl) ?_
      refine LW.q rfl (Qt.extr rfl rfl) ?_
      refine LW.q rfl (Qt.assign rfl) ?_
      refine LW.q rfl (Qt.assign rfl) ?_
      refine LW.done ?_
      refine T.seq ?_
      refine T.region ?_
      refine LW.q rfl (Qt.move rfl) ?_
      refine LW.done ?_
      first | refine T.condF rfl ?_ | refine T.condPF rfl ((by rw [← drain_cut hlk2]; simp [look_put_same])) ?_ | refine T.condBF rfl ((by rw [← drain_cut hlk2]; simp [look_put_same])) ?_
      refine T.skip ?_
      refine T.region ?_
      refine LW.q rfl (Qt.move rfl) ?_
      refine LW.q rfl (Qt.add rfl rfl (wr64 (by omega) (by omega))) ?_
      refine LW.q rfl (Qt.assign rfl) ?_
      refine LW.done ?_
      refine ⟨_, ?_, _, ⟨_, i + 1, l.take at_ ++ l.drop (at_ + 1), p2, c2, cutL l[at_] L, putM M l[at_] false, ⟨by omega, cutL_up hu2, by have := cutL_le (key := l[at_]) (l := L); omega, drain_in hat hin2, drain_cut hlk2⟩, rfl, (updS rfl (updS rfl (updS rfl (updS rfl (updS rfl rfl))))), rfl⟩, Sub.any⟩
      first | omega | (simp; omega)
     ·
      obtain rfl : l = [] := List.eq_nil_of_length_eq_zero (by omega)
      obtain rfl : L = [] := nil_of_in hin2
      refine T.exit ?_
      refine T.seq ?_
      refine T.region ?_
      refine LW.q rfl (Qt.move rfl) ?_
      refine LW.e rfl (Ef.call (Bt.Shape B g na [] (by simp)) Try.func24 rfl rfl rfl ?_)
      rintro _ _ ⟨H, T0, rs, ps, cs, hok, hL, ho2, hsh, rfl, rfl⟩
      try simp only [List.cons_append, List.nil_append]
      rw [shape_nil ho2 hok hL] at hsh
      obtain ⟨p3, c3, rfl⟩ := one_shape hsh
      refine LW.conv (fun w ho => ho.map fun k K => Has.cons_imp (fun _ K => Has.open_sepL K) K) ?_
      simp only [List.map_cons, List.map_nil, List.cons_append, List.nil_append, rwA, rwV, outS, List.length_cons, List.length_nil, Nat.zero_add]
      refine LW.own fun w0 ho0 => ?_
      obtain ⟨g3, rfl⟩ := (ho0.slice_at (p := p3) (m := 1) (c := c3) (k := 1)).2.1 (by omega)
      obtain ⟨g4, rfl⟩ := (ho0.slice_at (p := ps) (m := 1) (c := cs) (k := 1)).2.1 (by omega)
      clear ho0
      refine LW.q rfl (Qt.assign rfl) ?_
      refine LW.done ?_
      refine T.seq ?_
      refine T.region ?_
      refine LW.q rfl (Qt.move rfl) ?_
      refine LW.e rfl (Ef.call (Bt.Len B g na []) Try.func18 rfl rfl rfl ?_)
      rintro _ _ ⟨rfl, rfl⟩
      try simp only [List.cons_append, List.nil_append]
      refine LW.q rfl (Qt.eql rfl rfl) ?_
      refine LW.q rfl (Qt.move rfl) ?_
      first | refine LW.gT (t := 104) rfl rfl ?_ | refine LW.gT (t := 104) rfl (decide_eq_true (by omega)) ?_ | refine LW.gT (t := 104) rfl (by omega) ?_
      refine LW.q rfl (Qt.move rfl) ?_
      refine LW.q rfl (Qt.len (e := 51) (sz := 1) (by kernel_rfl) rfl) ?_
      refine LW.q rfl (Qt.eql rfl rfl) ?_
      refine LW.q rfl (Qt.pick rfl rfl) ?_
      refine LW.q rfl (Qt.move rfl) ?_
      first | refine LW.gT (t := 109) rfl rfl ?_ | refine LW.gT (t := 109) rfl (decide_eq_true (by omega)) ?_ | refine LW.gT (t := 109) rfl (by omega) ?_
      refine LW.q rfl (Qt.move rfl) ?_
      refine LW.q rfl (Qt.index 0 (e := 51) (sz := 1) (by kernel_rfl) rfl rfl rfl (by omega)) ?_
      first | refine LW.q rfl (Qt.load (by kernel_rfl) rfl rfl) ?_ | refine LW.q rfl (Qt.load (by kernel_rfl) rfl (map_at _ _ _ (by omega))) ?_ | refine LW.q rfl (Qt.load (by kernel_rfl) rfl (flat_cell0 _ _ _ (by intros; rfl) _ (by omega) (by rfl))) ?_ | refine LW.q rfl (Qt.load (by kernel_rfl) rfl (flat_cell _ _ _ (by intros; rfl) _ _ (by omega) (by rfl))) ?_ | refine LW.q rfl (Qt.load (by kernel_rfl) rfl (bytes_at _ _ (by omega))) ?_
      refine LW.q rfl (Qt.len (e := 3) (sz := 1) (by kernel_rfl) rfl) ?_
      refine LW.q rfl (Qt.eql rfl rfl) ?_
      refine LW.q rfl (Qt.pick rfl rfl) ?_
      refine LW.q rfl (Qt.move rfl) ?_
      first | refine LW.gT (t := 116) rfl rfl ?_ | refine LW.gT (t := 116) rfl (decide_eq_true (by omega)) ?_ | refine LW.gT (t := 116) rfl (by omega) ?_
      refine LW.q rfl (Qt.move rfl) ?_
      refine LW.q rfl (Qt.index 0 (e := 51) (sz := 1) (by kernel_rfl) rfl rfl rfl (by omega)) ?_
      first | refine LW.q rfl (Qt.load (by kernel_rfl) rfl rfl) ?_ | refine LW.q rfl (Qt.load (by kernel_rfl) rfl (map_at _ _ _ (by omega))) ?_ | refine LW.q rfl (Qt.load (by kernel_rfl) rfl (flat_cell0 _ _ _ (by intros; rfl) _ (by omega) (by rfl))) ?_ | refine LW.q rfl (Qt.load (by kernel_rfl) rfl (flat_cell _ _ _ (by intros; rfl) _ _ (by omega) (by rfl))) ?_ | refine LW.q rfl (Qt.load (by kernel_rfl) rfl (bytes_at _ _ (by omega))) ?_
      refine LW.q rfl (Qt.index 0 (e := 3) (sz := 1) (by kernel_rfl) rfl rfl rfl (by omega)) ?_
      first | refine LW.q rfl (Qt.load (by kernel_rfl) rfl rfl) ?_ | refine LW.q rfl (Qt.load (by kernel_rfl) rfl (map_at _ _ _ (by omega))) ?_ | refine LW.q rfl (Qt.load (by kernel_rfl) rfl (flat_cell0 _ _ _ (by intros; rfl) _ (by omega) (by rfl))) ?_ | refine LW.q rfl (Qt.load (by kernel_rfl) rfl (flat_cell _ _ _ (by intros; rfl) _ _ (by omega) (by rfl))) ?_ | refine LW.q rfl (Qt.load (by kernel_rfl) rfl (bytes_at _ _ (by omega))) ?_
      refine LW.q rfl (Qt.eql rfl rfl) ?_
      refine LW.q rfl (Qt.pick rfl rfl) ?_
      refine LW.q rfl (Qt.assign rfl) ?_
      refine LW.done ?_
      refine T.ret ?_
      exact ⟨.inl rfl, _, _, res [_] rfl ⟨rvT rfl, trivial⟩, ⟨rfl, rfl⟩, Sub.any⟩
 ·
  refine T.skip ?_
  refine T.seq ?_
  refine T.region ?_
  refine LW.q rfl (Qt.move rfl) ?_
  refine LW.e rfl (Ef.call (Bt.newNo B o (by omega)) Try.func14 rfl rfl rfl ?_)
  rintro _ _ ⟨rfl, rfl⟩
  try simp only [List.cons_append, List.nil_append]
  refine LW.q rfl (Qt.move rfl) ?_
  refine LW.q rfl (Qt.extr rfl rfl) ?_
  refine LW.q rfl (Qt.extr rfl rfl) ?_
  refine LW.q rfl (Qt.assign rfl) ?_
  refine LW.q rfl (Qt.assign rfl) ?_
  refine LW.done ?_
  refine T.seq ?_
  refine T.seq ?_
  refine T.region ?_
  refine LW.q rfl (Qt.move rfl) ?_
  first | refine LW.q rfl (Qt.eqlNil (by kernel_rfl) rfl rfl) ?_ | refine LW.q rfl (Qt.eqlNN (by kernel_rfl) rfl rfl) ?_
  refine LW.done ?_
  first | refine T.condT rfl ?_ | refine T.condPT rfl (by omega) ?_ | refine T.condBT rfl (by omega) ?_
  refine T.seq ?_
  refine T.region ?_
  refine LW.q rfl (Qt.move rfl) ?_
  refine LW.q rfl (Qt.neq rfl rfl) ?_
  refine LW.q rfl (Qt.assign rfl) ?_
  refine LW.done ?_
  refine T.ret ?_
  exact ⟨.inl rfl, _, _, res [_] rfl ⟨rvT rfl, trivial⟩, ⟨rfl, rfl⟩, Sub.any⟩
end Go.Proofs.Ytefognjcognknaa

/- The law BtreeDrains of annalslaw09 holds: for all arguments of bulk at most 1048576 the call returns true and the arguments read as before. Condition: the bound of the second form. -/
set_option linter.unusedSimpArgs false
set_option linter.unusedVariables false
namespace Go.Proofs.Ytefognjcognknaa.btreeDrains
open Go.ChangeShapes Go.WideShapes Go.ChangeAt Go.RowKit

set_option maxRecDepth 100000 in
theorem contract (H : Type) (enc : TypeId × Value → H) (W : World) (base : Nat) (args : Array Value) (ds gs : List (DataW H)) (before : List MemPlace)
    (hval : ∀ (j : Nat) t v, Try.f6.params[j]? = some t → args[j]? = some v → Value.okWide Try.prog W .any base t v)
    (hW : DataW.Whole enc Try.prog Try.f6.params.toList Rows.btreeDrainsSpec.vars false W args.toList ds gs before) (hk : Rows.uptoSmall H (ds ++ gs) = true) :
    Calls Try.prog 6 args W fun e W' => ∃ v, e = .returned v ∧ Rows.btreeDrainsSpec.post enc Try.prog Try.f6 false true false false W args v W' := by
  have hW0 := hW
  obtain ⟨p, q, hA0, hV, rfl, hfz, hnd⟩ := hW
  have hA : DataW.TrodAll enc Try.prog W 0 (fun _ => true) true Try.f6.params.toList args.toList ds p := hA0
  rw [Try.params6] at hA hval
  obtain ⟨v0, v1, v2, d0, d1, d2, p0, p1, p2, rfl, rfl, rfl, h0, h1, h2⟩ := trodAll_three hA
  obtain ⟨rfl, rfl⟩ := trodVars_none hV
  have hbulk := Try.upto_bound hk
  rw [List.append_nil] at hbulk
  clear hA0 hV hk
  obtain ⟨a0, rfl, rfl, rfl, wf0⟩ := open_int Try.underlying3 (hval 0 3 v0 rfl rfl) h0
  obtain ⟨sa1, sl1, sc1, rfl⟩ := okWide_slice Try.underlying22 (hval 1 22 v1 rfl rfl)
  obtain ⟨fu1, t1⟩ := h1
  obtain ⟨sv1, l1, hc1, hs1, hB1, hL1⟩ := open_slice_R (enc := enc) (P := Try.prog) (W := W) (R := fun cs (a : List UInt8) => cs = [.string (strOf a)]) (B := fun d => d.length + 1) Try.underlying22 (show Try.prog.cellsOf 9 = 1 by kernel_rfl) (by omega) (fun n cs y => read_str Try.underlying9 n cs y) t1
  simp only [Value.cells, List.cons.injEq, and_true] at hc1
  subst hc1
  dsimp only at hB1 hL1
  obtain ⟨fp1, hR1, _⟩ := hs1.reads (fun a : List UInt8 => Value.string (strOf a)) (fun cs a h => h)
  obtain ⟨sa2, sl2, sc2, rfl⟩ := okWide_slice Try.underlying51 (hval 2 51 v2 rfl rfl)
  obtain ⟨fu2, t2⟩ := h2
  obtain ⟨sv2, l2, hc2, hs2, hB2, hL2⟩ := open_slice_R (enc := enc) (P := Try.prog) (W := W) (R := fun cs (a : Int) => cs = [.int .i64 a] ∧ -9223372036854775808 ≤ a ∧ a ≤ 9223372036854775807) (B := fun _ => 1) Try.underlying51 (show Try.prog.cellsOf 3 = 1 by kernel_rfl) (by omega) (fun n cs y => read_i64 Try.underlying3 n cs y) t2
  simp only [Value.cells, List.cons.injEq, and_true] at hc2
  subst hc2
  dsimp only at hB2 hL2
  obtain ⟨fp2, hR2, hfp2⟩ := hs2.reads iV (fun cs a h => h.1)
  have hones : ∀ l : List Int, (l.map fun _ => 1).sum = l.length := fun l => by
    induction l with
    | nil => rfl
    | cons a l ih => rw [List.map_cons, List.sum_cons, ih, List.length_cons]; omega
  have hlen2 := hones l2
  rw [bulk_three] at hbulk
  have hlen := len_le_sum List.length l1

  refine (Fn.law (Bu.drains _ a0 _ _ l1 l2 (RoS.ofReads hR1) (RoS.ofReads hR2) (by omega) (by omega))).mono fun e W' ⟨he, hg⟩ => ?_
  subst he
  exact ⟨_, rfl, post_law Try.laidOut hW0 rfl rfl 4 Try.underlying4 (by kernel_rfl) (by rw [Try.params6]; decide +kernel) hg.toBelow⟩

set_option maxRecDepth 100000 in
theorem lifted (os : Os) (started : os.Started) (H : Type) (enc : TypeId × Value → H) (F : Stop.Interp) :
    ReturnsInHanded {} Try.checked os 6 .any ((Rows.OpenSpec.upto Rows.btreeDrainsSpec).pre6 enc Try.prog Try.f6 Rows.btreeDrainsUptoRow.domain false) (((Rows.OpenSpec.upto Rows.btreeDrainsSpec).at F).post enc Try.prog Try.f6 false true false false) := by
  refine returnsInHanded_of_cond (C := Try.checked) (s := Rows.OpenSpec.upto Rows.btreeDrainsSpec) (k := Rows.uptoSmall) rfl Try.own started (by kernel_rfl) Try.func6
    (OpenSpec.witness (enc := enc) (C := Try.checked) (s := Rows.OpenSpec.upto Rows.btreeDrainsSpec) (k := Rows.uptoSmall) rfl false ⟨#[], #[.int .i64 0, .slice none 0 0, .slice none 0 0], []⟩ 8 (by kernel_rfl) (by kernel_rfl) (by kernel_rfl)
      (x := ([.lit (.int .i64 0), .nil, .nil], [], [])) (by kernel_rfl) rfl (by kernel_rfl)) ?_
  intro W base args ds gs before hval hW _ hk _
  exact contract H enc W base args ds gs before hval hW hk

theorem over : Rows.btreeDrainsUptoRow.holds Try.pinned (Rows.OpenSpec.upto Rows.btreeDrainsSpec) :=
  OpenClaim.holds_of_cond 6 Try.f6 rfl rfl rfl rfl rfl rfl rfl ⟨rfl, rfl, rfl, rfl, rfl⟩ rfl rfl rfl rfl rfl (by kernel_rfl) Try.func6 (by kernel_rfl)
    (of_decide_eq_true (by kernel_rfl)) (by unfold Func.isWrapper; first | (rw [if_pos (by decide +kernel)]; kernel_rfl) | (rw [if_neg (by decide +kernel)]; exact ⟨rfl, rfl⟩))
    (fun os started H enc _ F => lifted os started H enc F)

theorem proved : Rows.BtreeDrainsUptoSaid := over
end Go.Proofs.Ytefognjcognknaa.btreeDrains
