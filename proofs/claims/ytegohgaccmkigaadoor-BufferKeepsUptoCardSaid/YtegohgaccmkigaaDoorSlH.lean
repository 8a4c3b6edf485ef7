/- Slice literals of one-cell elements; '[]byte("..")' of a constant, whose row bears the run-time's mark. Conditions: of each rule its own. -/
import Derived.Test.YtegohgaccmkigaaDoorPgZ
import Derived.Great.BuildSlice
set_option linter.unusedSimpArgs false
set_option linter.unusedVariables false
namespace Go.Proofs.YtegohgaccmkigaaDoor
open Go.RowKit
section
variable {P : Program} {B : Base} {n : Nat} {S l r : List Assn} {f : Fr} {K : Value → List Assn → Prop} {Φ : Post}
variable {d : Option Tmp} {ty : TypeId} {pos : String} {af : Array Edge} {gd : Option (Nat × Bool)}

/-- A block that bears the run-time's mark. -/
def fblk (g : Nat) (C : List Value) (t : TypeId) (fr : Nat × Nat) : Assn := fun h => h g = some (.cells C.toArray t fr)
instance (g : Nat) (l : List Assn) (C : List Value) (t : TypeId) (fr : Nat × Nat) : CellsAt g (fblk g C t fr :: l) C := ⟨fun _ ⟨_, _, _, a, _, e, _⟩ => ⟨[], t, fr, by rw [List.append_nil]; exact a.p _ _ e⟩⟩
class FrzB (g : Nat) (l : List Assn) (r : outParam (List Assn)) : Prop where
  cut : ∃ C t m, (∀ h, Has l h → Has (blk g C t :: m) h) ∧ ∀ h, Has (fblk g C t (C.length, C.length + 1) :: m) h → Has r h
instance (g : Nat) (C : List Value) (t : TypeId) (l : List Assn) : FrzB g (blk g C t :: l) (fblk g C t (C.length, C.length + 1) :: l) := ⟨C, t, l, fun _ H => H, fun _ H => H⟩
instance (g : Nat) (A : Assn) (l r : List Assn) [k : FrzB g l r] : FrzB g (A :: l) (A :: r) := ⟨by
  obtain ⟨C, t, m, h1, h2⟩ := k.cut
  exact ⟨C, t, A :: m, fun h H => Has.swap (Has.cons_imp h1 H), fun h H => Has.cons_imp h2 (Has.swap H)⟩⟩
theorem Own.frz {w : World} {g : Nat} (H : Own B w l) [k : FrzB g l r] : ∃ (C : List Value) (t : TypeId), w.heap[g]? = some (.cells C.toArray t (0, 0)) ∧ Own B (w.freeze ⟨g, C.length, none⟩ 1) r := by
  obtain ⟨C, t, m, h1, h2⟩ := k.cut
  have H1 : Own B w (blk g C t :: m) := H.map h1
  refine ⟨C, t, H1.get, Own.map ?_ h2⟩
  have e : w.freeze ⟨g, C.length, none⟩ 1 = { w with heap := w.heap.modify g fun | .cells c elem (lo, hi) => .cells c elem (if lo == hi then (C.length, C.length + 1) else (min lo C.length, max hi (C.length + 1))) | o => o } := by
    unfold World.freeze; rw [if_neg (by decide)]; rfl
  rw [e]
  refine Own.kept (fp := [g]) H1 ⟨rfl, rfl, rfl, by simp, fun k _ hn => ?_⟩ (fun h e g' hg => by simp at hg; subst hg; exact ⟨_, e⟩) (fun h1 h _ _ e _ => ?_)
  · simp only [List.mem_singleton] at hn
    simp only [Array.getElem?_modify]
    rw [if_neg (fun q => hn q.symm)]
  · have := e g (.inl (by simp))
    unfold fblk
    rw [this]
    simp only [Array.getElem?_modify, if_true]
    have hg := H1.get
    rw [hg]
    rfl
theorem Ef.mark {t g m c : Nat} {x : Operand} (hb : bytesB P t = true) (hx : ev n f x = some (.slice (some ⟨g, 0, none⟩) m c)) [k : FrzB g l r] (h : K (.slice (some ⟨g, 0, none⟩) m c) r) : Ef P B n ⟨d, .convert t t x, ty, pos, af, gd⟩ f l K := ⟨fun w next Q ho hk => by
  obtain ⟨e, h1, h2⟩ := bytesB_spec hb
  obtain ⟨C, t', hg, ho'⟩ := ho.frz (k := k)
  have hsh : w.shape? g = some (t', C.length) := by
    unfold World.shape?; rw [hg]; simp
  have hr : (convert t t (.slice (some ⟨g, 0, none⟩) m c)).run P w = .ok (.slice (some ⟨g, 0, none⟩) m c) (w.freeze ⟨g, C.length, none⟩ 1) := by
    simp [convert, run_underlying h1, run_underlying h2, markStringish, hsh]
  unfold Oper.wp execOp
  simp only [eval_act', evu_eq hx, Sem.run_bind, hr, Sem.run_pure, Result.andThen_ok]
  exact hk _ _ _ h ho'⟩
/-- A slice literal of one-cell elements, all of them told. -/
theorem Ef.lit {t e len : Nat} {parts : Array (Nat × Operand)} (vs : List Value) (hk : sliceB P t e 1 = true) (hz : ((P.info? e).bind (·.zero)).isSome = true) (hp : parts.toList.map (fun p => (p.1, ev n f p.2)) = (vs.zipIdx 0).map fun x => (x.2, some x.1)) (h1 : ∀ v ∈ vs, v.cells = #[v]) (hl : vs.length = len) (h0 : 0 < len) (h24 : len ≤ 16777216)
    (h : ∀ g, K (.slice (some ⟨g, 0, none⟩) len len) (blk g vs e :: l)) : Ef P B n ⟨d, .buildSlice t len parts, ty, pos, af, gd⟩ f l K := ⟨fun w next Q ho hk' => by
  obtain ⟨q1, q2⟩ := sliceB_spec hk
  obtain ⟨i, hi, his⟩ := info_of_size q2
  rw [hi] at hz
  obtain ⟨z, hzz⟩ := Option.isSome_iff_exists.1 hz
  have hpe : (parts.map fun p => (p.1, evu n f p.2)).toList = (vs.zipIdx 0).map fun x => (x.2, x.1) := by
    rw [Array.toList_map]
    have e := congrArg (List.map (fun p : Nat × Option Value => (p.1, p.2.getD undef))) hp
    simp only [List.map_map, Function.comp_def, Option.getD_some] at e
    exact e
  have hr := run_buildSlice (P := P) w t e len (parts.map fun p => (p.1, evu n f p.2)) vs.toArray i z q1 hi (by simpa using hzz) (by rw [his]; omega) (by rw [his]; omega) (by rw [hpe, his]; exact Great.fill_flat _ _ h1 (by simp [hl]))
  unfold Oper.wp execOp
  simp only [eval_act', Sem.run_bind, hr, Sem.run_pure, Result.andThen_ok]
  exact hk' _ _ _ (h _) (ho.alloc vs e)⟩
end
end Go.Proofs.YtegohgaccmkigaaDoor
