/- The package buffer: the pool as a whole: Pages, Frames, Pin, Unpin, Bytes, Put. Conditions: sizes; the frames are in order. -/
import Derived.Test.YtegohgaccmkigaaDoorBgB
set_option linter.unusedSimpArgs false
set_option linter.unusedVariables false
namespace Go.Proofs.YtegohgaccmkigaaDoor
open Go.RowKit

/-- A contract used where there is more. -/
theorem Fn.wide {P : Program} {B : Base} {g : FuncId} {args : Array Value} {pre l F : List Assn} {R R' : Value → List Assn → Prop} (h : Fn P B g args pre R) [k : TakeL pre l F] (hr : ∀ v l', R v l' → ∃ l2, Sub (l' ++ F) l2 ∧ R' v l2) : Fn P B g args l R' := ⟨fun w F0 ho => by
  have ho' : Own B w (pre ++ (F ++ F0)) := ho.map fun hh H => by
    obtain ⟨h1, h2, d, a, b, e1, e2⟩ := Has.split H
    rw [← List.append_assoc]
    exact Has.join d a b (k.take _ e1) e2
  refine (h.run w (F ++ F0) ho').mono ?_
  rintro _ w' ⟨v, l', rfl, hR, ho2⟩
  obtain ⟨l2, hs, hR'⟩ := hr v l' hR
  refine ⟨v, l2, rfl, hR', ho2.map fun hh H => ?_⟩
  rw [← List.append_assoc] at H
  obtain ⟨h1, h2, d, a, b, e1, e2⟩ := Has.split H
  exact Has.join d a b (hs _ e1) e2⟩

theorem Bp.pages (B : Base) (g b n first count hand gl : Nat) (A : List Fa) : Fn Tryd.prog B 12 #[.pointer (some ⟨g, 0, none⟩)] [plA g b n first count hand gl A] (fun u l => u = .int .i64 count ∧ l = [plA g b n first count hand gl A]) := by
  refine Fn.openPl fun q hA hp ⟨gp, hgp⟩ => ?_
  simp only [plC, List.append_nil]
  refine Fn.wide (Bf.pages B g b q.gf n first count hand q.pl 1 q.cl) ?_
  rintro v l' ⟨rfl, rfl⟩
  exact ⟨_, sub_pl (S := []) q hA, rfl, rfl⟩
theorem Bp.frames (B : Base) (g b n first count hand gl : Nat) (A : List Fa) (hA : A.length = n) (hn2 : n ≤ 4096) : Fn Tryd.prog B 13 #[.pointer (some ⟨g, 0, none⟩)] [plA g b n first count hand gl A] (fun u l => ∃ p c, u = .slice p n c ∧ l = [row (.slice p n c) 3 1 n (A.map fun x => Value.int .i64 x.page), plA g b n first count hand gl A]) := by
  refine Fn.openPl fun q hA2 hp ⟨gp, hgp⟩ => ?_
  simp only [plC, List.append_nil]
  have hl : q.Fs.length = n := by rw [← hA, ← hA2, List.length_map]
  refine Fn.wide (Bf.frames B g b q.gf n first count hand q.pl 1 q.cl q.Fs hl hn2) ?_
  rintro v l' ⟨p, c, rfl, rfl⟩
  refine ⟨_, fun h H => ?_, p, c, rfl, rfl⟩
  have : (A.map fun x => Value.int .i64 x.page) = q.Fs.map fun x => Value.int .i64 x.page := by rw [← hA2, List.map_map]; rfl
  rw [this]
  exact Has.cons_imp (sub_pl (S := []) q hA2) H

/-! where a page is -/
theorem findA_some {A : List Fa} {page : Int} {i : Nat} (h : findA A page = some i) : 0 ≤ page ∧ ∃ x, A[i]? = some x ∧ x.page = page ∧ ∀ (j : Nat), j < i → ∀ y : Fa, A[j]? = some y → y.page ≠ page := by
  unfold findA at h
  split at h
  · cases h
  · rename_i h0
    obtain ⟨hi, h1, h2⟩ := List.findIdx?_eq_some_iff_getElem.1 h
    refine ⟨by omega, A[i], List.getElem?_eq_getElem hi, of_decide_eq_true h1, fun j hj y hy => ?_⟩
    have hjl := (List.getElem?_eq_some_iff.1 hy).1
    have := h2 j hj
    rw [List.getElem?_eq_getElem hjl] at hy
    cases hy
    simpa using this
theorem findA_none {A : List Fa} {page : Int} (h : findA A page = none) (h0 : 0 ≤ page) : ∀ (j : Nat) (y : Fa), A[j]? = some y → y.page ≠ page := by
  unfold findA at h
  rw [if_neg (by omega)] at h
  intro j y hy
  have := List.findIdx?_eq_none_iff.1 h y (List.mem_of_getElem? hy)
  simpa using this
theorem fd_of {Fs : List Fm} {A : List Fa} (hA : Fs.map Fm.a = A) {page : Int} {i : Nat} (h : findA A page = some i) : ∃ x, Fd Fs page i x := by
  obtain ⟨h0, y, h1, h2, h3⟩ := findA_some h
  obtain ⟨x, e1, rfl⟩ := map_a_back hA h1
  exact ⟨x, e1, h2, h0, fun j hj z hz => h3 j hj z.a (map_a_at hA hz)⟩
theorem nofd_of {Fs : List Fm} {A : List Fa} (hA : Fs.map Fm.a = A) {page : Int} (h : findA A page = none) (h0 : 0 ≤ page) : ∀ (j : Nat) (y : Fm), Fs[j]? = some y → y.page ≠ page := fun j y hy => findA_none h h0 j y.a (map_a_at hA hy)

/-! what gives way -/
theorem mod_succ {h n : Nat} (hh : h < n) : (h + 1 = n ∧ (h + 1) % n = 0) ∨ (h + 1 < n ∧ (h + 1) % n = h + 1) := by
  by_cases e : h + 1 = n
  · exact .inl ⟨e, by rw [e, Nat.mod_self]⟩
  · exact .inr ⟨by omega, Nat.mod_eq_of_lt (by omega)⟩
/-- How far from h round to i. -/
def far (n h i : Nat) : Nat := if h ≤ i then i - h else n + i - h
theorem far_succ {n h i : Nat} (hh : h < n) (hi : i < n) (hne : h ≠ i) : far n ((h + 1) % n) i + 1 = far n h i := by
  unfold far
  rcases mod_succ hh with ⟨e1, e2⟩ | ⟨e1, e2⟩ <;> rw [e2] <;> split <;> split <;> omega
theorem far_self {n h : Nat} (hh : h < n) : far n ((h + 1) % n) h < n := by
  unfold far
  rcases mod_succ hh with ⟨e1, e2⟩ | ⟨e1, e2⟩ <;> rw [e2] <;> split <;> omega
theorem clock_go : ∀ {f : Nat} {A : List Fa} {h i : Nat} {x : Fa}, A[i]? = some x → ¬ 0 < x.pins → h < A.length →
    far A.length h i + (if x.used = true then A.length else 0) < f → ∃ r, clockA f A h = some r
  | 0, _, _, _, _, _, _, _, hf => by omega
  | f + 1, A, h, i, x, hi, hx, hh, hf => by
    have hil := (List.getElem?_eq_some_iff.1 hi).1
    unfold clockA
    rw [List.getElem?_eq_getElem hh]
    dsimp only
    split
    · rename_i hp
      have hne : h ≠ i := fun e => by subst e; rw [List.getElem?_eq_getElem hh] at hi; cases hi; exact hx hp
      refine clock_go hi hx (Nat.mod_lt _ (by omega)) ?_
      have := far_succ hh hil hne
      omega
    · split
      · rename_i hp hu
        by_cases hne : h = i
        · subst hne
          rw [List.getElem?_eq_getElem hh] at hi
          cases hi
          refine clock_go (i := h) (x := { A[h] with used := false }) (by rw [List.getElem?_set_self (by omega)]) hp (by rw [List.length_set]; exact Nat.mod_lt _ (by omega)) ?_
          rw [List.length_set]
          rw [if_pos hu] at hf
          have := far_self hh
          simp
          omega
        · refine clock_go (i := i) (x := x) (by rw [List.getElem?_set_ne hne]; exact hi) hx (by rw [List.length_set]; exact Nat.mod_lt _ (by omega)) ?_
          rw [List.length_set]
          have := far_succ hh hil hne
          omega
      · exact ⟨_, rfl⟩
theorem clock_some {A : List Fa} {h : Nat} (hh : h < A.length) (hun : (A.all fun x => decide (0 < x.pins)) = false) : ∃ r, clockA (2 * A.length + 1) A h = some r := by
  have : ∃ x ∈ A, ¬ 0 < x.pins := by
    rcases Classical.em (∃ x ∈ A, ¬ 0 < x.pins) with h | h
    · exact h
    · exfalso
      have : (A.all fun x => decide (0 < x.pins)) = true := by
        rw [List.all_eq_true]
        intro x hx
        exact decide_eq_true (Classical.byContradiction fun hc => h ⟨x, hx, hc⟩)
      rw [this] at hun; cases hun
  obtain ⟨x, hx, hp⟩ := this
  obtain ⟨i, hi, rfl⟩ := List.getElem_of_mem hx
  refine clock_go (List.getElem?_eq_getElem hi) hp hh ?_
  have : far A.length h i ≤ A.length := by unfold far; split <;> omega
  split <;> omega
/-- What the frames have in common with those ahead. -/
theorem clock_fr : ∀ {f : Nat} {A A' : List Fa} {h i h' : Nat}, clockA f A h = some (i, A', h') → ∀ (j : Nat) (y : Fa), A'[j]? = some y → ∃ x, A[j]? = some x ∧ y.page = x.page ∧ y.mark = x.mark ∧ y.pins = x.pins ∧ y.dirty = x.dirty ∧ y.b = x.b
  | 0, _, _, _, _, _, e => by cases e
  | f + 1, A, A', h, i, h', e => by
    intro j y hy
    unfold clockA at e
    split at e
    · cases e
    · rename_i x hx
      split at e
      · exact clock_fr e j y hy
      · split at e
        · obtain ⟨z, hz, q1, q2, q3, q4, q5⟩ := clock_fr e j y hy
          rw [List.getElem?_set] at hz
          split at hz
          · rename_i e2
            subst e2
            rw [if_pos (List.getElem?_eq_some_iff.1 hx).1] at hz
            cases hz
            exact ⟨x, hx, q1, q2, q3, q4, q5⟩
          · exact ⟨z, hz, q1, q2, q3, q4, q5⟩
        · simp only [Option.some.injEq, Prod.mk.injEq] at e
          obtain ⟨_, rfl, _⟩ := e
          exact ⟨y, hy, rfl, rfl, rfl, rfl, rfl⟩
theorem clock_at : ∀ {f : Nat} {A A' : List Fa} {h i h' : Nat}, clockA f A h = some (i, A', h') → h < A.length → h' < A.length ∧ ∃ x, A'[i]? = some x ∧ ¬ 0 < x.pins
  | 0, _, _, _, _, _, e, _ => by cases e
  | f + 1, A, A', h, i, h', e, hh => by
    unfold clockA at e
    have hm : (h + 1) % A.length < A.length := Nat.mod_lt _ (by omega)
    split at e
    · cases e
    · rename_i x hx
      split at e
      · exact clock_at e hm
      · split at e
        · have := clock_at e (by rw [List.length_set]; exact hm); rwa [List.length_set] at this
        · rename_i hp _
          simp only [Option.some.injEq, Prod.mk.injEq] at e
          obtain ⟨rfl, rfl, rfl⟩ := e
          exact ⟨hm, x, hx, hp⟩
end Go.Proofs.YtegohgaccmkigaaDoor
