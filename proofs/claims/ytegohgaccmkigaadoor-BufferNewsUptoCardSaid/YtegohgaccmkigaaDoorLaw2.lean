/- From contracts over assertions to what a law's row owes; arguments that are only read. Conditions: none. -/
import Derived.Test.YtegohgaccmkigaaDoorLaw
import Derived.Test.YtegohgaccmkigaaDoorSlE
set_option linter.unusedSimpArgs false
set_option linter.unusedVariables false
namespace Go.Proofs.YtegohgaccmkigaaDoor
open Go.RowKit

def baseOf (W : World) : Base := ⟨W.os, W.tape, W.output, World.piece W⟩
theorem own_base (W : World) : Own (baseOf W) W [] := ⟨rfl, rfl, rfl, Piece.le_refl _, fun _ => none, ⟨fun _ => .inl rfl⟩, ⟨fun _ _ e => by cases e⟩, trivial⟩
theorem Own.keeps {W W' : World} {l : List Assn} (h : Own (baseOf W) W' l) : Kept [] W W' := by
  have hb : ∀ k o, W.heap[k]? = some o → W'.heap[k]? = some o := fun k o e => h.ro.p k o e
  refine ⟨h.os, h.tape, h.output, ?_, fun k hk _ => ?_⟩
  · rcases Nat.eq_zero_or_pos W.heap.size with h0 | h0
    · omega
    · have := lt_of_block (hb (W.heap.size - 1) _ (Array.getElem?_eq_getElem (by omega)))
      omega
  · rw [hb k _ (Array.getElem?_eq_getElem hk), Array.getElem?_eq_getElem hk]
theorem Fn.law {P : Program} {W : World} {g : FuncId} {args : Array Value} (h : Fn P (baseOf W) g args [] (fun v l => v = .bool true ∧ l = [])) : Calls P g args W fun e W' => e = .returned (.bool true) ∧ Kept [] W W' := by
  refine (h.run W [] (own_base W)).mono ?_
  rintro e w' ⟨v, l, rfl, ⟨rfl, rfl⟩, ho⟩
  exact ⟨rfl, ho.keeps⟩

theorem range_cell {W : World} {b o j : Nat} {v : Value} (h : W.cell? ⟨b, o + j, none⟩ = some v) : ∃ c t fr, W.heap[b]? = some (.cells c t fr) ∧ c[o + j]? = some v := by
  unfold World.cell? at h
  split at h
  · rename_i c e fr hb
    exact ⟨c, e, fr, hb, by simpa using h⟩
  · cases h
theorem roc_of {W : World} {b : Nat} {c : Array Value} {t : TypeId} {fr : Nat × Nat} (h : W.heap[b]? = some (.cells c t fr)) : ROc (baseOf W) b c.toList := ⟨[], t, fr, by simpa [baseOf, World.piece] using h⟩
theorem RoS.ofReads {W : World} {v : Value} {cs : List Value} {fp : List Nat} (h : Reads W v cs fp) : RoS (baseOf W) v cs := by
  obtain ⟨a, cap, rfl, h | ⟨b, o, rfl, hr, _⟩⟩ := h
  · exact ⟨a, cap, rfl, .inl h⟩
  · match cs, hr with
    | [], _ => exact ⟨_, cap, rfl, .inl rfl⟩
    | u :: cs, hr =>
      obtain ⟨c, t, fr, hb, _⟩ := range_cell (hr 0 u rfl)
      refine ⟨_, cap, rfl, .inr ⟨b, o, c.toList, rfl, roc_of hb, fun j x hx => ?_⟩⟩
      obtain ⟨c', t', fr', hb', hc'⟩ := range_cell (hr j x hx)
      rw [hb] at hb'
      injection hb' with e1
      injection e1 with e1
      subst e1
      rw [Nat.mul_one]
      simpa using hc'
/-- The elements of a slice, from what the row's reading gives. -/
theorem SliceAt.ro {α : Type} {W : World} {sz : Nat} {R : List Value → α → Prop} {v : Value} {l : List α} (h : SliceAt W sz R v l) (hsz : 0 < sz) : ∃ a cap, v = .slice a l.length cap ∧ (l = [] ∨ ∃ b o C, a = some ⟨b, o, none⟩ ∧ ROc (baseOf W) b C ∧ ∀ i (hi : i < l.length), ∃ cells, rdl C (o + i * sz) cells ∧ R cells l[i]) := by
  rcases h with ⟨rfl, rfl⟩ | ⟨a, cap, rfl, hl, hm, hi⟩
  · exact ⟨none, 0, rfl, .inl rfl⟩
  · refine ⟨some a, cap, rfl, ?_⟩
    by_cases h0 : l = []
    · exact .inl h0
    · right
      have hp : 0 < l.length := List.length_pos_iff.2 h0
      obtain ⟨cells, b, o, rfl, hb, hlen, hr, hR⟩ := hi 0 hp
      obtain ⟨c, t, fr, hbb, _⟩ := range_cell (hr 0 _ (List.getElem?_eq_getElem (by omega)))
      refine ⟨b, o, c.toList, rfl, roc_of hbb, fun i hil => ?_⟩
      obtain ⟨cells', b', o', e, _, hlen', hr', hR'⟩ := hi i hil
      injection e with e1 e2
      subst e1; subst e2
      refine ⟨cells', rdl_of fun j u hu => ?_, hR'⟩
      obtain ⟨c', t', fr', hb', hc'⟩ := range_cell (hr' j u hu)
      rw [hbb] at hb'
      injection hb' with e1
      injection e1 with e1
      subst e1
      simpa using hc'
end Go.Proofs.YtegohgaccmkigaaDoor
