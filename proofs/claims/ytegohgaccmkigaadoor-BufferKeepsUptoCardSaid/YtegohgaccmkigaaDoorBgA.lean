/- What a pool does, as plain functions on lists of frames; a pool's memory as one assertion. Conditions: none. -/
import Derived.Test.YtegohgaccmkigaaDoorBfD
set_option linter.unusedSimpArgs false
set_option linter.unusedVariables false
namespace Go.Proofs.YtegohgaccmkigaaDoor
open Go.RowKit

structure Fa where
  page : Int
  mark : Int
  pins : Int
  dirty : Bool
  used : Bool
  b : List UInt8
abbrev fa1 : Fa := ⟨-1, 0, 0, false, false, []⟩
def Fm.a (x : Fm) : Fa := ⟨x.page, x.mark, x.pins, x.dirty, x.used, x.b⟩
structure Pl where
  A : List Fa
  hand : Nat
  W : Wl
  D : DD

def findA (A : List Fa) (page : Int) : Option Nat := if page < 0 then none else A.findIdx? fun x => decide (x.page = page)
def upA (x : Fa) : Fa := { x with pins := x.pins + 1, used := true }
/-- The hand goes round: the frame that gives way, the frames and the hand then. -/
def clockA : Nat → List Fa → Nat → Option (Nat × List Fa × Nat)
  | 0, _, _ => none
  | f + 1, A, h => match A[h]? with
    | none => none
    | some x => if 0 < x.pins then clockA f A ((h + 1) % A.length) else if x.used = true then clockA f (A.set h { x with used := false }) ((h + 1) % A.length) else some (h, A, (h + 1) % A.length)
def forceP (W : Wl) (D : DD) (mark : Int) : Wl × DD := if mark ≤ W.dur then (W, D) else (W.flushed, flushE W D)
/-- A frame is written. -/
def giveP (first : Nat) (W : Wl) (D : DD) (x : Fa) : Wl × DD := if x.dirty = true then ((forceP W D x.mark).1, (forceP W D x.mark).2.write (first + x.page.toNat) x.b) else (W, D)
def victimP (first : Nat) (s : Pl) : Option (Nat × Pl) := match s.A.findIdx? fun x => decide (x.page < 0) with
  | some i => some (i, s)
  | none => if (s.A.all fun x => decide (0 < x.pins)) = true then none else match clockA (2 * s.A.length + 1) s.A s.hand with
    | none => none
    | some (i, A', h') => match A'[i]? with
      | none => none
      | some x => some (i, ⟨A', h', (giveP first s.W s.D x).1, (giveP first s.W s.D x).2⟩)
def newA (page : Int) (b : List UInt8) : Fa := ⟨page, 0, 1, false, true, b⟩
def pinP (first count : Nat) (s : Pl) (page : Int) : Pl × Int := if page < 0 ∨ (count : Int) ≤ page then (s, 1) else match findA s.A page with
  | some i => match s.A[i]? with
    | none => (s, 1)
    | some x => ({ s with A := s.A.set i (upA x) }, 0)
  | none => match victimP first s with
    | none => (s, 60)
    | some (i, s') => ({ s' with A := s'.A.set i (newA page (s'.D.read (first + page.toNat))) }, 0)
def pinnedA (A : List Fa) (page : Int) : Option (Nat × Fa) := match findA A page with
  | none => none
  | some i => match A[i]? with
    | none => none
    | some x => if 0 < x.pins then some (i, x) else none
def unpinA (A : List Fa) (page : Int) : List Fa × Int := match pinnedA A page with
  | none => (A, 61)
  | some (i, x) => (A.set i { x with pins := x.pins - 1 }, 0)
def putA (A : List Fa) (page : Int) (d : List UInt8) (mark : Int) : List Fa × Int := match pinnedA A page with
  | none => (A, 61)
  | some (i, x) => if d.length ≠ 256 then (A, 10) else (A.set i { x with mark := max x.mark mark, dirty := true, b := d }, 0)
def dirtyMark (A : List Fa) : Int := A.foldl (fun m x => if x.dirty = true then max m x.mark else m) 0
def writesP : DD → List (Nat × List UInt8) → DD
  | D, [] => D
  | D, p :: L => writesP (D.write p.1 p.2) L
/-- The changed pages: their sectors and bytes. -/
def dirtyL (first : Nat) (A : List Fa) : List (Nat × List UInt8) := A.filterMap fun x => if x.dirty = true then some (first + x.page.toNat, x.b) else none
def cleanA (A : List Fa) : List Fa := A.map fun x => { x with dirty := false }
def flushP (first : Nat) (s : Pl) : Pl := ⟨cleanA s.A, s.hand, (forceP s.W s.D (dirtyMark s.A)).1, (writesP (forceP s.W s.D (dirtyMark s.A)).2 (dirtyL first s.A)).sync⟩

/-- The frames are in order. -/
structure FOk (count n : Nat) (A : List Fa) : Prop where
  len : A.length = n
  n1 : 1 ≤ n
  n2 : n ≤ 4096
  fr : ∀ x ∈ A, x = fa1 ∨ (0 ≤ x.page ∧ x.page < count ∧ x.b.length = 256 ∧ 0 ≤ x.pins)
  mrk : ∀ x ∈ A, -(2 ^ 63) ≤ x.mark ∧ x.mark < 2 ^ 63
  one : ∀ (i j : Nat) (x y : Fa), A[i]? = some x → A[j]? = some y → x.page = y.page → 0 ≤ x.page → i = j

/-! memory -/
abbrev fmD (x : Fm) : Assn := rB (.slice x.p x.b.length x.c) x.b.length x.b
def daA (Fs : List Fm) : Assn := sepL (Fs.map fmD)
abbrev ifW (gl : Nat) : Value := .iface 44 (.pointer (some ⟨gl, 0, none⟩))
structure Pg3 where
  Fs : List Fm
  gf : Nat
  pl : Option Addr
  cl : Nat
abbrev plC (g b n first count hand gl : Nat) (q : Pg3) : List Assn := [poolB g b q.gf n first count hand q.pl 1 q.cl, fmR q.gf n q.Fs, lgR q.pl 1 q.cl [ifW gl], daA q.Fs]
/-- A pool over the disk at b, with the log at gl. -/
def plA (g b n first count hand gl : Nat) (A : List Fa) : Assn := exA fun q : Pg3 => sepL (pu (q.Fs.map Fm.a = A) :: plC g b n first count hand gl q)

theorem daA_at {Fs : List Fm} {i : Nat} {x : Fm} (h : Fs[i]? = some x) {k : Piece} (H : daA Fs k) : fmD x k := by
  have : ∀ (L : List Assn) (i : Nat) (A : Assn), L[i]? = some A → (∀ a b : Piece, Piece.le a b → A a → A b) → ∀ k, Has L k → A k := by
    intro L
    induction L with
    | nil => intro i A hi; simp at hi
    | cons C L ih =>
      intro i A hi hm k ⟨h1, h2, _, a1, a2, e1, e2⟩
      cases i with
      | zero => simp at hi; subst hi; exact hm _ _ a1 e1
      | succ i => exact hm _ _ a2 (ih i A (by simpa using hi) hm _ e2)
  refine this _ i (fmD x) (by simp [h]) ?_ k H
  intro a b hab ⟨e1, e2⟩
  refine ⟨e1, e2.imp id ?_⟩
  rintro ⟨g, cap, cur, q1, q2, q3⟩
  exact ⟨g, cap, cur, q1, hab.p _ _ q2, q3⟩
theorem Own.daAt {B : Base} {w : World} {l r : List Assn} {Fs : List Fm} {i : Nat} {x : Fm} (H : Own B w l) [k : TakeA (daA Fs) l r] (h : Fs[i]? = some x) : Own B w [fmD x] := H.map fun _ hk => by
  obtain ⟨h1, _, _, a, _, e, _⟩ := k.take _ hk
  refine ⟨h1, fun _ => none, ⟨fun _ => .inr rfl⟩, a, ⟨fun _ _ e => by cases e⟩, daA_at h e, trivial⟩
theorem Own.daPtr {B : Base} {w : World} {l r : List Assn} {Fs : List Fm} (H : Own B w l) [k : TakeA (daA Fs) l r] : ∀ (i : Nat) (x : Fm), Fs[i]? = some x → 0 < x.b.length → ∃ g, x.p = some ⟨g, 0, none⟩ := fun i x h h0 => by
  have := H.daAt (k := k) h
  exact (this.slice_at (p := x.p) (m := x.b.length) (c := x.c)).2.1 h0
theorem RdV.da {B : Base} {S r : List Assn} {Fs : List Fm} [k : TakeA (daA Fs) S r] {i : Nat} {x : Fm} (h : Fs[i]? = some x) (hp : 0 < x.b.length → ∃ g, x.p = some ⟨g, 0, none⟩) : RdV B S (.slice x.p x.b.length x.c) (bytesV x.b) :=
  RdV.ofRow (fun w ho => (ho.daAt (k := k) h).row_owns) (by simp) (by simpa using hp)
theorem da_same {Fs : List Fm} {i : Nat} {x y : Fm} (h : Fs[i]? = some x) (hp : y.p = x.p) (hc : y.c = x.c) (hb : y.b = x.b) : daA (Fs.set i y) = daA Fs := by
  have : (Fs.set i y).map fmD = Fs.map fmD := by
    apply List.ext_getElem?
    intro j
    rw [List.map_set, List.getElem?_set]
    split
    · rename_i e; subst e
      have hlt := (List.getElem?_eq_some_iff.1 h).1
      rw [List.getElem?_map, h, List.length_map, if_pos hlt]
      simp [fmD, hp, hc, hb]
    · rfl
  unfold daA
  rw [this]
theorem da_put {Fs : List Fm} {i : Nat} {y : Fm} (hi : i < Fs.length) {l : List Assn} : Sub (fmD y :: daA Fs :: l) (daA (Fs.set i y) :: l) := fun h H => by
  have key : ∀ (L : List Assn) (i : Nat) (A : Assn), i < L.length → ∀ h, Has (A :: L) h → Has (L.set i A) h := by
    intro L
    induction L with
    | nil => intro i A hi; simp at hi
    | cons C L ih =>
      intro i A hi h H
      cases i with
      | zero => exact Has.tail (Has.swap H)
      | succ i =>
        obtain ⟨h1, h2, d, a1, a2, e1, e2⟩ := Has.swap H
        exact ⟨h1, h2, d, a1, a2, e1, ih i A (by simpa using hi) _ e2⟩
  obtain ⟨h1, h2, d, a1, a2, e1, e2⟩ := Has.split (l := [fmD y, daA Fs]) (m := l) H
  refine ⟨h1, h2, d, a1, a2, ?_, e2⟩
  obtain ⟨k1, k2, d2, b1, b2, f1, f2⟩ := e1
  have f3 : Has (Fs.map fmD) k2 := by
    obtain ⟨m1, _, _, c1, _, q, _⟩ := f2
    exact Has.mono c1 q
  show Has ((Fs.set i y).map fmD) h1
  rw [List.map_set]
  exact key _ _ _ (by simpa using hi) _ ⟨k1, k2, d2, b1, b2, f1, f3⟩

theorem Fn.openPl {P : Program} {B : Base} {f : FuncId} {args : Array Value} {g b n first count hand gl : Nat} {A : List Fa} {S : List Assn} {R : Value → List Assn → Prop}
    (h : ∀ q : Pg3, q.Fs.map Fm.a = A → (∀ (i : Nat) (x : Fm), q.Fs[i]? = some x → 0 < x.b.length → ∃ g, x.p = some ⟨g, 0, none⟩) → (∃ gp, q.pl = some ⟨gp, 0, none⟩) → Fn P B f args (plC g b n first count hand gl q ++ S) R) : Fn P B f args (plA g b n first count hand gl A :: S) R := ⟨fun w F ho => by
  obtain ⟨hh, hd, hl, H⟩ := ho.has
  obtain ⟨q, H1⟩ := Has.open_ex H
  have H2 := Has.open_sepL H1
  obtain ⟨hA, H3⟩ := Has.open_pu H2
  have ho' : Own B w (plC g b n first count hand gl q ++ (S ++ F)) := ⟨ho.os, ho.tape, ho.output, ho.ro, hh, hd, hl, H3⟩
  simp only [List.cons_append, List.nil_append] at ho'
  refine (h q hA (ho'.daPtr (Fs := q.Fs)) ((ho'.slice_at (p := q.pl) (m := 1) (c := q.cl)).2.1 (by omega))).run w F ?_
  simpa using ho'⟩
theorem sub_pl {g b n first count hand gl : Nat} {A : List Fa} (q : Pg3) (hA : q.Fs.map Fm.a = A) {S : List Assn} : Sub (plC g b n first count hand gl q ++ S) (plA g b n first count hand gl A :: S) := fun h H => by
  refine Has.close_ex q ?_
  exact Has.close_sepL (Has.close_pu hA H)
end Go.Proofs.YtegohgaccmkigaaDoor
