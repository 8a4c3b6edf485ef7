/- A small separation logic over the model's heap: pieces, assertions, what a world has. Conditions: none. -/
import Derived.Test.YtegohgaccmkigaaDoorApp
set_option linter.unusedSimpArgs false
set_option linter.unusedVariables false
namespace Go.Proofs.YtegohgaccmkigaaDoor
open Go.RowKit

abbrev Piece := Nat → Option Obj
abbrev Assn := Piece → Prop
structure Piece.le (h k : Piece) : Prop where p : ∀ b o, h b = some o → k b = some o
structure Piece.disj (h k : Piece) : Prop where p : ∀ b, h b = none ∨ k b = none
def World.piece (w : World) : Piece := fun b => w.heap[b]?

/-- The assertions hold of parts of the piece that lie apart. -/
def Has : List Assn → Piece → Prop
  | [], _ => True
  | A :: l, h => ∃ h1 h2 : Piece, Piece.disj h1 h2 ∧ Piece.le h1 h ∧ Piece.le h2 h ∧ A h1 ∧ Has l h2

theorem Piece.le_refl (h : Piece) : Piece.le h h := ⟨fun _ _ e => e⟩
theorem Piece.le.le_trans {a b c : Piece} (h : Piece.le a b) (k : Piece.le b c) : Piece.le a c := ⟨fun _ _ e => k.p _ _ (h.p _ _ e)⟩
theorem Piece.disj.disj_symm {a b : Piece} (h : Piece.disj a b) : Piece.disj b a := ⟨fun x => (h.p x).symm⟩
theorem Piece.disj.disj_le {a b c : Piece} (h : Piece.disj a b) (k : Piece.le c b) : Piece.disj a c := ⟨fun x => by
  rcases h.p x with h | h
  · exact .inl h
  · cases hc : c x with
    | none => exact .inr rfl
    | some o => rw [k.p _ _ hc] at h; cases h⟩
def Piece.add (a b : Piece) : Piece := fun x => (a x).or (b x)
theorem Piece.le_add_left (a b : Piece) : Piece.le a (Piece.add a b) := ⟨fun x o h => by simp [Piece.add, h]⟩
theorem Piece.le_add_right {a b : Piece} (hd : Piece.disj a b) : Piece.le b (Piece.add a b) := ⟨fun x o h => by
  rcases hd.p x with k | k
  · simp [Piece.add, k, h]
  · rw [k] at h; cases h⟩
theorem Piece.add_le {a b c : Piece} (h : Piece.le a c) (k : Piece.le b c) : (Piece.add a b).le c := ⟨fun x o e => by
  unfold Piece.add at e
  cases ha : a x with
  | none => rw [ha] at e; exact k.p _ _ (by simpa using e)
  | some p => rw [ha] at e; simp at e; subst e; exact h.p _ _ ha⟩
theorem Piece.add_disj {a b c : Piece} (h : Piece.disj a c) (k : Piece.disj b c) : (Piece.add a b).disj c := ⟨fun x => by
  rcases h.p x with h | h
  · rcases k.p x with k | k
    · exact .inl (by simp [Piece.add, h, k])
    · exact .inr k
  · exact .inr h⟩

theorem Has.mono : ∀ {l : List Assn} {h k : Piece}, Piece.le h k → Has l h → Has l k
  | [], _, _, _, _ => trivial
  | _ :: _, _, _, hk, ⟨h1, h2, a, b, c, d, e⟩ => ⟨h1, h2, a, b.le_trans hk, c.le_trans hk, d, e⟩

theorem Has.swap {A B : Assn} {l : List Assn} {h : Piece} (H : Has (A :: B :: l) h) : Has (B :: A :: l) h := by
  obtain ⟨h1, h2, d1, a1, a2, hA, k1, k2, d2, b1, b2, hB, hl⟩ := H
  have e1 := d1.disj_le b1
  have e2 := d1.disj_le b2
  exact ⟨k1, Piece.add h1 k2, (Piece.add_disj e1 (Piece.disj.disj_symm d2)).disj_symm, b1.le_trans a2, Piece.add_le a1 (b2.le_trans a2), hB, h1, k2, e2, Piece.le_add_left _ _, Piece.le_add_right e2, hA, hl⟩

theorem Has.tail {A : Assn} {l : List Assn} {h : Piece} (H : Has (A :: l) h) : Has l h := by
  obtain ⟨_, h2, _, _, a2, _, hl⟩ := H
  exact Has.mono a2 hl

theorem Has.weaken {A A' : Assn} {l : List Assn} {h : Piece} (hA : ∀ k, A k → A' k) (H : Has (A :: l) h) : Has (A' :: l) h := by
  obtain ⟨h1, h2, d, a1, a2, a, b⟩ := H
  exact ⟨h1, h2, d, a1, a2, hA _ a, b⟩

theorem Has.split : ∀ {l m : List Assn} {h : Piece}, Has (l ++ m) h → ∃ h1 h2 : Piece, Piece.disj h1 h2 ∧ Piece.le h1 h ∧ Piece.le h2 h ∧ Has l h1 ∧ Has m h2
  | [], m, h, H => ⟨fun _ => none, h, ⟨fun _ => .inl rfl⟩, ⟨fun _ _ e => (by cases e)⟩, Piece.le_refl h, trivial, H⟩
  | A :: l, m, h, ⟨h1, h2, d, a1, a2, hA, H⟩ => by
    obtain ⟨k1, k2, d2, b1, b2, hl, hm⟩ := Has.split H
    have e1 := d.disj_le b1
    have e2 := d.disj_le b2
    exact ⟨Piece.add h1 k1, k2, Piece.add_disj e2 d2, Piece.add_le a1 (b1.le_trans a2), b2.le_trans a2, ⟨h1, k1, e1, Piece.le_add_left _ _, Piece.le_add_right e1, hA, hl⟩, hm⟩

theorem Has.join : ∀ {l m : List Assn} {h h1 h2 : Piece}, Piece.disj h1 h2 → Piece.le h1 h → Piece.le h2 h → Has l h1 → Has m h2 → Has (l ++ m) h
  | [], _, _, _, _, _, _, b, _, H => Has.mono b H
  | A :: l, m, h, h1, h2, d, a, b, ⟨k1, k2, e, c1, c2, hA, H⟩, K => by
    have d1 := (d.disj_symm.disj_le c1).disj_symm
    have d2 := (d.disj_symm.disj_le c2).disj_symm
    exact ⟨k1, Piece.add k2 h2, (Piece.add_disj e.disj_symm d1.disj_symm).disj_symm, c1.le_trans a, Piece.add_le (c2.le_trans a) b, hA, Has.join d2 (Piece.le_add_left _ _) (Piece.le_add_right d2) H K⟩

/-! assertions -/
def blk (g : Nat) (C : List Value) (t : TypeId) : Assn := fun h => h g = some (.cells C.toArray t (0, 0))
def pu (p : Prop) : Assn := fun _ => p
def exA {α : Type} (A : α → Assn) : Assn := fun h => ∃ x, A x h
def sepL (l : List Assn) : Assn := fun h => Has l h

theorem Has.open_sepL {l m : List Assn} {h : Piece} (H : Has (sepL l :: m) h) : Has (l ++ m) h := by
  obtain ⟨h1, h2, d, a, b, hl, hm⟩ := H
  exact Has.join d a b hl hm
theorem Has.close_sepL {l m : List Assn} {h : Piece} (H : Has (l ++ m) h) : Has (sepL l :: m) h := by
  obtain ⟨h1, h2, d, a, b, hl, hm⟩ := Has.split H
  exact ⟨h1, h2, d, a, b, hl, hm⟩
theorem Has.open_ex {α : Type} {A : α → Assn} {m : List Assn} {h : Piece} (H : Has (exA A :: m) h) : ∃ x, Has (A x :: m) h := by
  obtain ⟨h1, h2, d, a, b, ⟨x, hl⟩, hm⟩ := H
  exact ⟨x, h1, h2, d, a, b, hl, hm⟩
theorem Has.close_ex {α : Type} {A : α → Assn} {m : List Assn} {h : Piece} (x : α) (H : Has (A x :: m) h) : Has (exA A :: m) h := Has.weaken (fun _ k => ⟨x, k⟩) H
theorem Has.open_pu {p : Prop} {m : List Assn} {h : Piece} (H : Has (pu p :: m) h) : p ∧ Has m h := ⟨by obtain ⟨_, _, _, _, _, hp, _⟩ := H; exact hp, H.tail⟩
theorem Has.close_pu {p : Prop} {m : List Assn} {h : Piece} (hp : p) (H : Has m h) : Has (pu p :: m) h := ⟨fun _ => none, h, ⟨fun _ => .inl rfl⟩, ⟨fun _ _ e => (by cases e)⟩, Piece.le_refl h, hp, H⟩

/-! what stays throughout: the outer world, and blocks that are only read -/
structure Base where
  os : Os
  tape : Nat → Question → Nat
  output : Array (Nat × ByteArray)
  ro : Piece

/-- A world over the base that has these assertions, apart from the base's own blocks. -/
structure Own (B : Base) (w : World) (l : List Assn) : Prop where
  os : w.os = B.os
  tape : w.tape = B.tape
  output : w.output = B.output
  ro : Piece.le B.ro (World.piece w)
  has : ∃ h : Piece, Piece.disj h B.ro ∧ Piece.le h (World.piece w) ∧ Has l h

theorem Own.map {B : Base} {w : World} {l m : List Assn} (H : Own B w l) (f : ∀ h, Has l h → Has m h) : Own B w m :=
  ⟨H.os, H.tape, H.output, H.ro, let ⟨h, a, b, c⟩ := H.has; ⟨h, a, b, f _ c⟩⟩

theorem Own.drew {B : Base} {w : World} {l : List Assn} (H : Own B w l) : Own B w.drew l := ⟨H.os, H.tape, H.output, H.ro, H.has⟩

/-- A world that is kept but for blocks of the first assertion's. -/
theorem Own.kept {B : Base} {w w' : World} {A A' : Assn} {l : List Assn} {fp : List Nat} (H : Own B w (A :: l)) (hk : Kept fp w w') (hfp : ∀ h, A h → ∀ g ∈ fp, ∃ o, h g = some o)
    (hA : ∀ h1 h : Piece, A h1 → Piece.le h1 (World.piece w) → (∀ b, b ∈ fp ∨ w.heap.size ≤ b → h b = w'.heap[b]?) → (∀ b o, h1 b = some o → b ∉ fp → h b = some o) → A' h) : Own B w' (A' :: l) := by
  obtain ⟨h, hd, hl, h1, h2, d, a1, a2, hA1, H2⟩ := H.has
  have old : ∀ b o, w.heap[b]? = some o → b ∉ fp → w'.heap[b]? = some o := fun b o e hn => (hk.block b (lt_of_block e) hn).trans e
  have lt : ∀ {k : Piece} {b o}, Piece.le k (World.piece w) → k b = some o → b < w.heap.size := fun hk e => lt_of_block (hk.p _ _ e)
  have r0 : ∀ g ∈ fp, B.ro g = none ∧ h2 g = none := fun g hg => by
    obtain ⟨o, ho⟩ := hfp _ hA1 g hg
    refine ⟨?_, ?_⟩
    · rcases hd.p g with k | k
      · rw [a1.p _ _ ho] at k; cases k
      · exact k
    · rcases d.p g with k | k
      · rw [ho] at k; cases k
      · exact k
  let n1 : Piece := fun b => if b ∈ fp ∨ w.heap.size ≤ b then w'.heap[b]? else h1 b
  have e1 : Piece.le n1 (World.piece w') := ⟨fun b o e => by
    simp only [n1] at e
    split at e
    · exact e
    · rename_i hn; exact old b o (hl.p _ _ (a1.p _ _ e)) (fun hm => hn (.inl hm))⟩
  have e2 : Piece.le h2 (World.piece w') := ⟨fun b o e => old b o (hl.p _ _ (a2.p _ _ e)) (fun hm => by rw [(r0 b hm).2] at e; cases e)⟩
  have e3 : Piece.le B.ro (World.piece w') := ⟨fun b o e => old b o (H.ro.p _ _ e) (fun hm => by rw [(r0 b hm).1] at e; cases e)⟩
  have d12 : Piece.disj n1 h2 := ⟨fun b => by
    simp only [n1]
    split
    · rename_i hn
      rcases hn with hm | hm
      · exact .inr (r0 b hm).2
      · refine .inr ?_
        cases hb : h2 b with
        | none => rfl
        | some o => have := lt (a2.le_trans hl) hb; omega
    · exact d.p b⟩
  have d1r : Piece.disj n1 B.ro := ⟨fun b => by
    simp only [n1]
    split
    · rename_i hn
      rcases hn with hm | hm
      · exact .inr (r0 b hm).1
      · refine .inr ?_
        cases hb : B.ro b with
        | none => rfl
        | some o => have := lt H.ro hb; omega
    · exact ((hd.disj_symm.disj_le a1).disj_symm).p b⟩
  have d2r : Piece.disj h2 B.ro := (hd.disj_symm.disj_le a2).disj_symm
  refine ⟨hk.os.trans H.os, hk.tape.trans H.tape, hk.output.trans H.output, e3, Piece.add n1 h2, Piece.add_disj d1r d2r, Piece.add_le e1 e2, n1, h2, d12, Piece.le_add_left _ _, Piece.le_add_right d12, ?_, H2⟩
  exact hA h1 n1 hA1 (a1.le_trans hl) (fun b hb => by simp only [n1]; rw [if_pos hb]) (fun b o e hn => by
    simp only [n1]
    rw [if_neg (fun hm => hm.elim hn (fun h => by have := lt (a1.le_trans hl) e; omega))]; exact e)

/-- New blocks alone. -/
theorem Own.fresh {B : Base} {w w' : World} {A' : Assn} {l : List Assn} (H : Own B w l) (hk : Kept [] w w') (hA : ∀ h : Piece, (∀ b, w.heap.size ≤ b → h b = w'.heap[b]?) → A' h) : Own B w' (A' :: l) :=
  Own.kept (A := pu True) (fp := []) (H.map fun _ k => Has.close_pu trivial k) hk (by simp) (fun _ h _ _ e _ => hA h fun b hb => e b (.inr hb))

theorem Own.quiet {B : Base} {w w' : World} {l : List Assn} (H : Own B w l) (hk : Kept [] w w') : Own B w' l :=
  (Own.fresh (A' := pu True) H hk fun _ _ => trivial).map fun _ k => k.tail

/-- A block's content. -/
theorem Own.get {B : Base} {w : World} {g : Nat} {C : List Value} {t : TypeId} {l : List Assn} (H : Own B w (blk g C t :: l)) : w.heap[g]? = some (.cells C.toArray t (0, 0)) := by
  obtain ⟨h, _, hl, h1, _, _, a1, _, hA, _⟩ := H.has
  exact hl.p _ _ (a1.p _ _ hA)

theorem Own.alloc {B : Base} {w : World} {l : List Assn} (H : Own B w l) (C : List Value) (t : TypeId) : Own B (w.alloc (.cells C.toArray t)) (blk w.heap.size C t :: l) :=
  Own.fresh H ((Kept.refl _ _).alloc _) fun h e => by
    have := e w.heap.size (Nat.le_refl _)
    unfold blk
    rw [this]
    exact heap_alloc_new w _

theorem Own.setRow {B : Base} {w : World} {l : List Assn} {g : Nat} {C D : List Value} {t : TypeId} (H : Own B w (blk g C t :: l)) : Own B (w.setRow g D.toArray) (blk g D t :: l) :=
  Own.kept (fp := [g]) H ((Kept.refl _ _).setRow (by simp) _) (fun h e g' hg => by simp at hg; subst hg; exact ⟨_, e⟩) (fun h1 h _ _ e _ => by
    have := e g (.inl (by simp))
    unfold blk
    rw [this]
    exact setRow_heap w g _ D.toArray t _ H.get)

/-- A slice of its own: n elements of sz cells, in a block that may have room for more. -/
def row (v : Value) (e : TypeId) (sz n : Nat) (xs : List Value) : Assn := fun h =>
  xs.length = n * sz ∧ ((v = .slice none 0 0 ∧ n = 0) ∨
    ∃ g cap cur, v = .slice (some ⟨g, 0, none⟩) n cap ∧ h g = some (.cells cur e (0, 0)) ∧ n ≤ cap ∧ cap ≤ maxLen ∧ cur.size = cap * sz ∧ cur.toList.take (n * sz) = xs)

/-! finding and taking out, by instances -/
/-- The first cells of block g are C. -/
class CellsAt (g : Nat) (l : List Assn) (C : outParam (List Value)) : Prop where
  find : ∀ h, Has l h → ∃ X t fr, h g = some (.cells (C ++ X).toArray t fr)
instance (g : Nat) (l : List Assn) (C : List Value) (t : TypeId) : CellsAt g (blk g C t :: l) C := ⟨fun _ ⟨_, _, _, a, _, e, _⟩ => ⟨[], t, (0, 0), by rw [List.append_nil]; exact a.p _ _ e⟩⟩
instance (g : Nat) (A : Assn) (l : List Assn) (C : List Value) [k : CellsAt g l C] : CellsAt g (A :: l) C := ⟨fun _ H => k.find _ H.tail⟩
instance (g n cap : Nat) (e : TypeId) (sz : Nat) (l : List Assn) (xs : List Value) : CellsAt g (row (.slice (some ⟨g, 0, none⟩) n cap) e sz n xs :: l) xs := ⟨fun h ⟨h1, _, _, a, _, ⟨hl, e1⟩, _⟩ => by
  rcases e1 with ⟨e1, _⟩ | ⟨g', cap', cur, e1, e2, _, _, _, e3⟩
  · cases e1
  · injection e1 with e1 _ _
    injection e1 with e1
    injection e1 with e1
    subst e1
    refine ⟨cur.toList.drop (n * sz), e, (0, 0), ?_⟩
    rw [a.p _ _ e2, ← e3, List.take_append_drop]⟩
/-- The first cells of block g are C; when they are D, r holds. -/
class StoreAt (g : Nat) (l : List Assn) (C : outParam (List Value)) (D : List Value) (r : outParam (List Assn)) : Prop where
  cut : D.length = C.length → ∀ h, Has l h → ∃ X t m, Has (blk g (C ++ X) t :: m) h ∧ ∀ h', Has (blk g (D ++ X) t :: m) h' → Has r h'
instance (g : Nat) (C D : List Value) (t : TypeId) (l : List Assn) : StoreAt g (blk g C t :: l) C D (blk g D t :: l) := ⟨fun _ h H => ⟨[], t, l, by simpa using H, fun h' H' => by simpa using H'⟩⟩
instance (g : Nat) (A : Assn) (l r : List Assn) (C D : List Value) [k : StoreAt g l C D r] : StoreAt g (A :: l) C D (A :: r) := ⟨fun hd h H => by
  obtain ⟨h1, h2, d, a, b, e, H2⟩ := H
  obtain ⟨X, t, m, e1, e2⟩ := k.cut hd h2 H2
  exact ⟨X, t, A :: m, Has.swap ⟨h1, h2, d, a, b, e, e1⟩, fun h' H' => by
    obtain ⟨k1, k2, d', a', b', e', H3⟩ := Has.swap H'
    exact ⟨k1, k2, d', a', b', e', e2 _ H3⟩⟩⟩
instance (g n cap : Nat) (e : TypeId) (sz : Nat) (l : List Assn) (C D : List Value) : StoreAt g (row (.slice (some ⟨g, 0, none⟩) n cap) e sz n C :: l) C D (row (.slice (some ⟨g, 0, none⟩) n cap) e sz n D :: l) := ⟨fun hd h H => by
  obtain ⟨h1, h2, d, a, b, ⟨hl, e1⟩, H2⟩ := H
  rcases e1 with ⟨e1, _⟩ | ⟨g', cap', cur, e1, e2, c1, c2, c3, e3⟩
  · cases e1
  · injection e1 with e1 _ ec
    injection e1 with e1
    injection e1 with e1
    subst e1; subst ec
    have hc : (C ++ cur.toList.drop (n * sz)).toArray = cur := by rw [← e3, List.take_append_drop]
    refine ⟨cur.toList.drop (n * sz), e, l, ⟨h1, h2, d, a, b, by unfold blk; rw [hc]; exact e2, H2⟩, fun h' ⟨k1, k2, d', a', b', e', H3⟩ => ⟨k1, k2, d', a', b', ⟨hd.trans hl, .inr ⟨g, cap, _, rfl, e', c1, c2, ?_, ?_⟩⟩, H3⟩⟩
    · simp [hd, hl]
      have : n * sz ≤ cap * sz := Nat.mul_le_mul_right _ c1
      omega
    · simp [← hl, ← hd]⟩

class FindB (g : Nat) (l : List Assn) (C : outParam (List Value)) (t : outParam TypeId) : Prop where
  find : ∀ h, Has l h → h g = some (.cells C.toArray t (0, 0))
instance (g : Nat) (l : List Assn) (C : List Value) (t : TypeId) : FindB g (blk g C t :: l) C t := ⟨fun _ ⟨_, _, _, a, _, e, _⟩ => a.p _ _ e⟩
instance (g : Nat) (A : Assn) (l : List Assn) (C : List Value) (t : TypeId) [k : FindB g l C t] : FindB g (A :: l) C t := ⟨fun _ H => k.find _ H.tail⟩

class TakeA (A : Assn) (l : List Assn) (r : outParam (List Assn)) : Prop where
  take : ∀ h, Has l h → Has (A :: r) h
instance (A : Assn) (l : List Assn) : TakeA A (A :: l) l := ⟨fun _ H => H⟩
instance (A B : Assn) (l r : List Assn) [k : TakeA A l r] : TakeA A (B :: l) (B :: r) := ⟨fun _ ⟨h1, h2, d, a, b, e, H⟩ => Has.swap ⟨h1, h2, d, a, b, e, k.take _ H⟩⟩

/-- The row of slice v is taken out. -/
class TakeR (v : Value) (l : List Assn) (e sz n : outParam Nat) (xs : outParam (List Value)) (r : outParam (List Assn)) : Prop where
  take : ∀ h, Has l h → Has (row v e sz n xs :: r) h
instance (v : Value) (e sz n : Nat) (xs : List Value) (l : List Assn) : TakeR v (row v e sz n xs :: l) e sz n xs l := ⟨fun _ H => H⟩
instance (v : Value) (e sz n : Nat) (xs : List Value) (A : Assn) (l r : List Assn) [k : TakeR v l e sz n xs r] : TakeR v (A :: l) e sz n xs (A :: r) := ⟨fun _ ⟨h1, h2, d, a, b, e, H⟩ => Has.swap ⟨h1, h2, d, a, b, e, k.take _ H⟩⟩

class TakeL (m : List Assn) (l : List Assn) (r : outParam (List Assn)) : Prop where
  take : ∀ h, Has l h → Has (m ++ r) h
instance (l : List Assn) : TakeL [] l l := ⟨fun _ H => H⟩
theorem Has.cons_imp {A : Assn} {l m : List Assn} {h : Piece} (f : ∀ k, Has l k → Has m k) : Has (A :: l) h → Has (A :: m) h := fun ⟨h1, h2, d, a, b, e, H⟩ => ⟨h1, h2, d, a, b, e, f _ H⟩
instance (A : Assn) (m l l' r : List Assn) [k1 : TakeA A l l'] [k2 : TakeL m l' r] : TakeL (A :: m) l r := ⟨fun _ H => Has.cons_imp k2.take (k1.take _ H)⟩

instance (m F : List Assn) : TakeL m (m ++ F) F := ⟨fun _ H => H⟩
theorem Has.under {A : Assn} : ∀ {m r : List Assn} {h : Piece}, Has (A :: (m ++ r)) h → Has (m ++ A :: r) h
  | [], _, _, H => H
  | _ :: _, _, _, H => Has.cons_imp (fun _ k => Has.under k) (Has.swap H)
instance (priority := low) (A : Assn) (m l r : List Assn) [k : TakeL m l r] : TakeL m (A :: l) (A :: r) := ⟨fun _ H => Has.under (Has.cons_imp k.take H)⟩

/-- The block g now bears D. -/
class ReplB (g : Nat) (l : List Assn) (D : List Value) (r : outParam (List Assn)) : Prop where
  cut : ∃ C t m, (∀ h, Has l h → Has (blk g C t :: m) h) ∧ ∀ h, Has (blk g D t :: m) h → Has r h
instance (g : Nat) (C D : List Value) (t : TypeId) (l : List Assn) : ReplB g (blk g C t :: l) D (blk g D t :: l) := ⟨C, t, l, fun _ H => H, fun _ H => H⟩
instance (g : Nat) (A : Assn) (D : List Value) (l r : List Assn) [k : ReplB g l D r] : ReplB g (A :: l) D (A :: r) := ⟨by
  obtain ⟨C, t, m, h1, h2⟩ := k.cut
  exact ⟨C, t, A :: m, fun h H => Has.swap (Has.cons_imp h1 H), fun h H => Has.cons_imp h2 (Has.swap H)⟩⟩

theorem Own.find {B : Base} {w : World} {g : Nat} {l : List Assn} {C : List Value} {t : TypeId} (H : Own B w l) [k : FindB g l C t] : w.heap[g]? = some (.cells C.toArray t (0, 0)) := by
  obtain ⟨h, _, hl, e⟩ := H.has
  exact hl.p _ _ (k.find _ e)
theorem Own.cells {B : Base} {w : World} {g : Nat} {l : List Assn} {C : List Value} (H : Own B w l) [k : CellsAt g l C] : ∃ X t fr, w.heap[g]? = some (.cells (C ++ X).toArray t fr) := by
  obtain ⟨h, _, hl, e⟩ := H.has
  obtain ⟨X, t, fr, hx⟩ := k.find _ e
  exact ⟨X, t, fr, hl.p _ _ hx⟩
theorem Own.store {B : Base} {w : World} {g : Nat} {l r : List Assn} {C D : List Value} (H : Own B w l) (hd : D.length = C.length) [k : StoreAt g l C D r] :
    ∃ X t, w.heap[g]? = some (.cells (C ++ X).toArray t (0, 0)) ∧ Own B (w.setRow g (D ++ X).toArray) r := by
  obtain ⟨h, hd1, hl, e⟩ := H.has
  obtain ⟨X, t, m, e1, e2⟩ := k.cut hd h e
  have H' : Own B w (blk g (C ++ X) t :: m) := ⟨H.os, H.tape, H.output, H.ro, h, hd1, hl, e1⟩
  exact ⟨X, t, H'.get, (Own.setRow H').map e2⟩
theorem Own.take {B : Base} {w : World} {A : Assn} {l r : List Assn} (H : Own B w l) [k : TakeA A l r] : Own B w (A :: r) := H.map k.take
theorem Own.takeR {B : Base} {w : World} {v : Value} {e sz n : Nat} {xs : List Value} {l r : List Assn} (H : Own B w l) [k : TakeR v l e sz n xs r] : Own B w (row v e sz n xs :: r) := H.map k.take
theorem Own.takeL {B : Base} {w : World} {m l r : List Assn} (H : Own B w l) [k : TakeL m l r] : Own B w (m ++ r) := H.map k.take
theorem Own.drop {B : Base} {w : World} {m l : List Assn} (H : Own B w (m ++ l)) : Own B w m := H.map fun _ k => by
  obtain ⟨_, _, _, a, _, hm, _⟩ := Has.split k
  exact hm.mono a
theorem Own.repl {B : Base} {w : World} {g : Nat} {D : List Value} {l r : List Assn} (H : Own B w l) [k : ReplB g l D r] : Own B (w.setRow g D.toArray) r := by
  obtain ⟨C, t, m, h1, h2⟩ := k.cut
  exact (Own.setRow (H.map h1)).map h2
end Go.Proofs.YtegohgaccmkigaaDoor
