/- The law BufferEnough of annalslaw06 holds (its card): for all arguments of bulk at most 1048576 the call returns true and the arguments read as before. Condition: the bound of the second form. -/
import Derived.Test.YtegohgaccmkigaaDoorZBufferEnough10
import Derived.Deep.QuietTactic
import Derived.BigQuiet
/- The package buffer: Flush. Conditions: sizes; the frames are in order. -/
set_option linter.unusedSimpArgs false
set_option linter.unusedVariables false
namespace Go.Proofs.YtegohgaccmkigaaDoor
open Go.RowKit

/-! writes of several sectors -/
theorem writes_ok : ∀ {L : List (Nat × List UInt8)} {D : DD}, D.Ok → (∀ p ∈ L, p.1 < D.secs.length ∧ p.2.length = 256) → (writesP D L).Ok ∧ (writesP D L).secs.length = D.secs.length ∧ (writesP D L).pend.length = D.pend.length + L.length
  | [], D, h, _ => ⟨h, rfl, rfl⟩
  | p :: L, D, h, hL => by
    obtain ⟨h1, h2⟩ := hL p (List.mem_cons_self ..)
    obtain ⟨a, b, c⟩ := writes_ok (L := L) (h.wr2 p.1 p.2 h1 h2) (fun q hq => hL q (List.mem_cons_of_mem _ hq))
    exact ⟨a, b, by rw [writesP, c]; simp [DD.write]; omega⟩
theorem writes_out {n : Nat} : ∀ {L : List (Nat × List UInt8)} {D : DD}, (∀ p ∈ L, p.1 ≠ n) → (writesP D L).read n = D.read n
  | [], _, _ => rfl
  | p :: L, D, h => by
    rw [writesP, writes_out (fun q hq => h q (List.mem_cons_of_mem _ hq)), DD.rdW, if_neg (h p (List.mem_cons_self ..))]
theorem writes_in {n : Nat} {b : List UInt8} : ∀ {L : List (Nat × List UInt8)} {D : DD}, (L.map Prod.fst).Nodup → (n, b) ∈ L → (writesP D L).read n = b
  | [], _, _, h => by cases h
  | p :: L, D, hd, h => by
    simp only [List.map_cons, List.nodup_cons] at hd
    rcases List.mem_cons.1 h with rfl | h
    · rw [writesP, writes_out (fun q hq e => hd.1 (List.mem_map.2 ⟨q, hq, e⟩)), DD.rdW, if_pos rfl]
    · rw [writesP]; exact writes_in hd.2 h
theorem DD.ext_read {D E : DD} (hD : D.pend = []) (hE : E.pend = []) (hl : D.secs.length = E.secs.length) (h : ∀ n, n < D.secs.length → D.read n = E.read n) : D = E := by
  have : D.secs = E.secs := by
    apply List.ext_getElem hl
    intro i h1 h2
    have := h i h1
    rw [DD.rdN _ hD, DD.rdN _ hE, List.getD_eq_getElem?_getD, List.getD_eq_getElem?_getD, List.getElem?_eq_getElem h1, List.getElem?_eq_getElem h2] at this
    exact this
  cases D; cases E; simp_all
theorem writes_sync {L L' : List (Nat × List UInt8)} {D : DD} (ho : D.Ok) (hL : ∀ p ∈ L, p.1 < D.secs.length ∧ p.2.length = 256) (h1 : (L.map Prod.fst).Nodup) (h2 : (L'.map Prod.fst).Nodup) (he : ∀ p, p ∈ L ↔ p ∈ L') : (writesP D L).sync = (writesP D L').sync := by
  have a := writes_ok ho hL
  have b := writes_ok ho (fun p hp => hL p ((he p).2 hp))
  refine DD.ext_read rfl rfl ((DD.sync_len a.1).trans (a.2.1.trans ((DD.sync_len b.1).trans b.2.1).symm)) fun n hn => ?_
  rw [DD.sync_len a.1] at hn
  rw [DD.rdS a.1 n hn, DD.rdS b.1 n (by rw [b.2.1, ← a.2.1]; exact hn)]
  by_cases hx : ∃ d, (n, d) ∈ L
  · obtain ⟨d, hd⟩ := hx
    rw [writes_in h1 hd, writes_in h2 ((he _).1 hd)]
  · rw [writes_out (fun p hp e => hx ⟨p.2, by rw [← e]; exact hp⟩), writes_out (fun p hp e => hx ⟨p.2, by rw [← e]; exact (he _).2 hp⟩)]

/-! which frames are changed -/
theorem dirty_mem {first : Nat} {A : List Fa} {p : Nat × List UInt8} : p ∈ dirtyL first A ↔ ∃ (i : Nat) (x : Fa), A[i]? = some x ∧ x.dirty = true ∧ p = (first + x.page.toNat, x.b) := by
  unfold dirtyL
  rw [List.mem_filterMap]
  constructor
  · rintro ⟨x, hx, e⟩
    split at e
    · obtain ⟨i, hi, rfl⟩ := List.getElem_of_mem hx
      exact ⟨i, A[i], List.getElem?_eq_getElem hi, by assumption, (Option.some.inj e).symm⟩
    · cases e
  · rintro ⟨i, x, hi, hd, rfl⟩
    exact ⟨x, List.mem_of_getElem? hi, by rw [if_pos hd]⟩
theorem dirty_nodup {count n first : Nat} {A : List Fa} (hF : FOk count n A) (hdp : ∀ x ∈ A, x.dirty = true → 0 ≤ x.page) : ((dirtyL first A).map Prod.fst).Nodup := by
  have key : ∀ (A : List Fa), (∀ x ∈ A, x.dirty = true → 0 ≤ x.page) → (∀ (i j : Nat) (x y : Fa), A[i]? = some x → A[j]? = some y → x.page = y.page → 0 ≤ x.page → i = j) → ((dirtyL first A).map Prod.fst).Nodup := by
    intro A
    induction A with
    | nil => intro _ _; exact List.nodup_nil
    | cons a A ih =>
      intro h1 h2
      have ih' := ih (fun x hx => h1 x (List.mem_cons_of_mem _ hx)) (fun i j x y hi hj e h0 => by have := h2 (i + 1) (j + 1) x y (by simpa using hi) (by simpa using hj) e h0; omega)
      by_cases hd : a.dirty = true
      · have e : dirtyL first (a :: A) = (first + a.page.toNat, a.b) :: dirtyL first A := by simp [dirtyL, hd]
        rw [e, List.map_cons, List.nodup_cons]
        refine ⟨fun hm => ?_, ih'⟩
        obtain ⟨p, hp, e2⟩ := List.mem_map.1 hm
        obtain ⟨i, x, hi, hxd, rfl⟩ := dirty_mem.1 hp
        have h0 := h1 a (List.mem_cons_self ..) hd
        have h3 := h1 x (List.mem_cons_of_mem _ (List.mem_of_getElem? hi)) hxd
        have := h2 0 (i + 1) a x rfl (by simpa using hi) (by dsimp only at e2; omega) h0
        omega
      · have e : dirtyL first (a :: A) = dirtyL first A := by simp [dirtyL, hd]
        rw [e]; exact ih'
  exact key A hdp hF.one
theorem dirtyMark_bound {A : List Fa} (h : ∀ x ∈ A, x.mark < 2 ^ 63) : 0 ≤ dirtyMark A ∧ dirtyMark A < 2 ^ 63 := by
  unfold dirtyMark
  have : ∀ (A : List Fa) (m : Int), (∀ x ∈ A, x.mark < 2 ^ 63) → 0 ≤ m → m < 2 ^ 63 → 0 ≤ A.foldl (fun m x => if x.dirty = true then max m x.mark else m) m ∧ A.foldl (fun m x => if x.dirty = true then max m x.mark else m) m < 2 ^ 63 := by
    intro A
    induction A with
    | nil => intro m _ h1 h2; exact ⟨h1, h2⟩
    | cons a A ih =>
      intro m h h1 h2
      have ha := h a (List.mem_cons_self ..)
      rw [List.foldl_cons]
      refine ih _ (fun x hx => h x (List.mem_cons_of_mem _ hx)) ?_ ?_ <;> split <;> omega
  exact this A 0 h (by omega) (by omega)

/-! the changed frames, by number -/
instance finInh {n : Nat} [h : NeZero n] : Inhabited (Fin n) := ⟨⟨0, Nat.pos_of_ne_zero h.out⟩⟩
abbrev fpV (gf n : Nat) (i : Fin n) : Value := .pointer (some ⟨gf, 0 + i.1 * 6, none⟩)
theorem Bf.elemP : ElemOk Tryd.prog 95 86 1 8 := .mk' (.pointer none) Tryd.underlying95 (by kernel_rfl) rfl (by omega)
def isDirty (Fs : List Fm) (i : Nat) : Bool := match Fs[i]? with
  | some x => x.dirty
  | none => false
/-- The changed frames among the first k. -/
def dirN (n : Nat) (Fs : List Fm) (k : Nat) : List (Fin n) := (List.finRange n).filter fun i => decide (i.1 < k) && isDirty Fs i.1
theorem dirN_zero (n : Nat) (Fs : List Fm) : dirN n Fs 0 = [] := by unfold dirN; rw [List.filter_eq_nil_iff]; intro i _; simp
theorem fin_filter_succ (n : Nat) (p : Nat → Bool) (k : Nat) (hk : k < n) : (List.finRange n).filter (fun i => decide (i.1 < k + 1) && p i.1) = (List.finRange n).filter (fun i => decide (i.1 < k) && p i.1) ++ (if p k = true then [⟨k, hk⟩] else []) := by
  induction n with
  | zero => omega
  | succ n ih =>
    rw [List.finRange_succ_last]
    simp only [List.filter_append, List.filter_map, Function.comp_def, Fin.val_castSucc, List.filter_cons, List.filter_nil, Fin.val_last]
    by_cases hkn : k < n
    · rw [ih hkn]
      have h1 : (decide (n < k + 1) && p n) = false := by simp; omega
      have h2 : (decide (n < k) && p n) = false := by simp; omega
      simp only [h1, h2, Bool.false_eq_true, if_false, List.append_nil, List.map_append]
      congr 1
      split <;> rfl
    · obtain rfl : k = n := by omega
      have e : (List.finRange k).filter (fun i => decide (i.1 < k + 1) && p i.1) = (List.finRange k).filter (fun i => decide (i.1 < k) && p i.1) := by
        apply List.filter_congr
        intro i _
        have := i.2
        simp [this]; omega
      rw [e]
      have h1 : (decide (k < k + 1) && p k) = p k := by simp
      have h2 : (decide (k < k) && p k) = false := by simp
      simp only [h1, h2]
      cases p k <;> simp [Fin.last]
theorem dirN_succ {n : Nat} {Fs : List Fm} {k : Nat} (hk : k < n) {x : Fm} (hx : Fs[k]? = some x) : dirN n Fs (k + 1) = dirN n Fs k ++ (if x.dirty = true then [⟨k, hk⟩] else []) := by
  unfold dirN
  rw [fin_filter_succ n (isDirty Fs) k hk]
  simp [isDirty, hx]
theorem dirN_mem {n : Nat} {Fs : List Fm} {i : Fin n} (hn : Fs.length = n) : i ∈ dirN n Fs n ↔ ∃ x, Fs[i.1]? = some x ∧ x.dirty = true := by
  unfold dirN
  rw [List.mem_filter]
  have hi := i.2
  obtain ⟨x, hx⟩ : ∃ x, Fs[i.1]? = some x := ⟨_, List.getElem?_eq_getElem (by omega)⟩
  simp [isDirty, hx, hi]
theorem dirN_le (n : Nat) (Fs : List Fm) (k : Nat) : (dirN n Fs k).length ≤ n := by
  have := List.length_filter_le (fun i : Fin n => decide (i.1 < k) && isDirty Fs i.1) (List.finRange n)
  rwa [List.length_finRange] at this
/-- The frames, those of the list unchanged from now on. -/
def cleanF {n : Nat} (Fs : List Fm) (L : List (Fin n)) : List Fm := Fs.mapIdx fun j x => if L.any (fun i => decide (i.1 = j)) = true then { x with dirty := false } else x
theorem cleanF_at {n : Nat} {Fs : List Fm} (L : List (Fin n)) (j : Nat) : (cleanF Fs L)[j]? = (Fs[j]?).map fun x => if L.any (fun i => decide (i.1 = j)) = true then { x with dirty := false } else x := by
  unfold cleanF; rw [List.getElem?_mapIdx]
theorem cleanF_len {n : Nat} (Fs : List Fm) (L : List (Fin n)) : (cleanF Fs L).length = Fs.length := by unfold cleanF; simp
theorem cleanF_nil {n : Nat} (Fs : List Fm) : cleanF Fs ([] : List (Fin n)) = Fs := by
  apply List.ext_getElem?; intro j; rw [cleanF_at]; simp
theorem cleanF_snoc {n : Nat} {Fs : List Fm} (L : List (Fin n)) (i : Fin n) {x : Fm} (hx : (cleanF Fs L)[i.1]? = some x) : (cleanF Fs L).set i.1 { x with dirty := false } = cleanF Fs (L ++ [i]) := by
  apply List.ext_getElem?
  intro j
  have hlt := (List.getElem?_eq_some_iff.1 hx).1
  by_cases e : i.1 = j
  · subst e
    rw [List.getElem?_set_self hlt, cleanF_at]
    rw [cleanF_at] at hx
    cases hf : Fs[i.1]? with
    | none => rw [hf] at hx; cases hx
    | some y =>
      rw [hf] at hx
      simp only [Option.map_some, Option.some.injEq] at hx
      subst hx
      simp
      split <;> simp
  · rw [List.getElem?_set_ne e, cleanF_at, cleanF_at]
    cases Fs[j]? with
    | none => rfl
    | some y => simp [e]
theorem cleanF_da {n : Nat} (Fs : List Fm) (L : List (Fin n)) : daA (cleanF Fs L) = daA Fs := by
  unfold daA
  congr 1
  apply List.ext_getElem?
  intro j
  rw [List.getElem?_map, cleanF_at, List.getElem?_map, Option.map_map]
  cases Fs[j]? with
  | none => rfl
  | some y => simp only [Option.map_some, Function.comp_def]; split <;> rfl
theorem cleanF_all {n : Nat} {Fs : List Fm} (hn : Fs.length = n) (L : List (Fin n)) (hL : ∀ i : Fin n, (∃ x, Fs[i.1]? = some x ∧ x.dirty = true) → i ∈ L) : (cleanF Fs L).map Fm.a = cleanA (Fs.map Fm.a) := by
  apply List.ext_getElem?
  intro j
  unfold cleanA
  rw [List.getElem?_map, cleanF_at, List.getElem?_map, List.getElem?_map]
  cases h : Fs[j]? with
  | none => rfl
  | some y =>
    have hj : j < n := by rw [← hn]; exact (List.getElem?_eq_some_iff.1 h).1
    simp only [Option.map_some, Option.some.injEq]
    by_cases hd : y.dirty = true
    · have := hL ⟨j, hj⟩ ⟨y, h, hd⟩
      rw [if_pos (List.any_eq_true.2 ⟨_, this, by simp⟩)]
      rfl
    · split
      · rfl
      · simp only [Fm.a, Fa.mk.injEq, true_and, and_true]
        simpa using hd

set_option maxHeartbeats 1000000 in
theorem Bf.cmp (gf i j : Nat) (a b : Int) (W : World) (h1 : W.cell? ⟨gf, i, none⟩ = some (.int .i64 a)) (h2 : W.cell? ⟨gf, j, none⟩ = some (.int .i64 b)) (ha : -(2 ^ 62) ≤ a ∧ a < 2 ^ 62) (hb : -(2 ^ 62) ≤ b ∧ b < 2 ^ 62) :
    Calls Tryd.prog 40 #[.pointer (some ⟨gf, i, none⟩), .pointer (some ⟨gf, j, none⟩)] W fun e w' => e = .returned (.int .i64 (a - b)) ∧ ∃ q, w' = W.drewN q := by
  have hw : IntKind.i64.wrap (a - b) = a - b := wr64 (by omega) (by omega)
  go_enter Tryd.func40, Tryd.ntmps40
  go_wp2
  go_quiet (fail)
  go_wp2
  go_ret
  exact ⟨rfl, _, rfl⟩

theorem cell_of_cells {B : Base} {w : World} {g o : Nat} {l : List Assn} {C : List Value} {v : Value} (H : Own B w l) [k : CellsAt g l C] (hv : C[o]? = some v) : w.cell? ⟨g, o, none⟩ = some v := by
  obtain ⟨X, t, fr, h⟩ := H.cells (g := g)
  unfold World.cell?
  rw [h]
  have := (List.getElem?_eq_some_iff.1 hv).1
  simp [List.getElem?_append_left this, hv]
def pageF (n : Nat) (Fs : List Fm) (i : Fin n) : Int := match Fs[i.1]? with
  | some x => x.page
  | none => 0
theorem pageF_swo (n : Nat) (Fs : List Fm) : Go.Sort.SWO (ltOf fun i j : Fin n => pageF n Fs i - pageF n Fs j) where
  irrefl x := by simp [ltOf]
  trans x y z h1 h2 := by simp only [ltOf, decide_eq_true_eq] at *; omega
  ntrans x y z h1 h2 := by simp only [ltOf, decide_eq_false_iff_not] at *; omega
theorem Bf.sort (B : Base) (gf n : Nat) (Fs : List Fm) (hn : Fs.length = n) (h1 : 1 ≤ n) (hpg : ∀ (j : Nat) (x : Fm), Fs[j]? = some x → -(2 ^ 62) ≤ x.page ∧ x.page < 2 ^ 62) (v : Value) (ds : List (Fin n)) (m : Nat) (hm : ds.length = m) (hb : m < 2 ^ 61) :
    Fn Tryd.prog B 39 #[v, .func (.func 40) #[] #[]] [row v 86 1 m (ds.map (fpV gf n)), fmR gf n Fs] (fun u l => u = .tuple #[] ∧ ∃ ds' : List (Fin n), ds'.Perm ds ∧ l = [row v 86 1 m (ds'.map (fpV gf n)), fmR gf n Fs]) := by
  haveI : NeZero n := ⟨by omega⟩
  refine Fn.sort Tryd.sortF (fpV gf n) (fun _ => rfl) (fun i j : Fin n => pageF n Fs i - pageF n Fs j) (pageF_swo n Fs) 40 86 (enters_of Tryd.func40 (by kernel_rfl) rfl) v m ds hm hb [fmR gf n Fs] ?_ _ rfl
  intro i j W ho
  obtain ⟨x, hx⟩ : ∃ x, Fs[i.1]? = some x := ⟨_, List.getElem?_eq_getElem (by have := i.2; omega)⟩
  obtain ⟨y, hy⟩ : ∃ y, Fs[j.1]? = some y := ⟨_, List.getElem?_eq_getElem (by have := j.2; omega)⟩
  have e1 : pageF n Fs i = x.page := by simp [pageF, hx]
  have e2 : pageF n Fs j = y.page := by simp [pageF, hy]
  rw [e1, e2]
  exact Bf.cmp gf _ _ _ _ W (cell_of_cells ho (fm_at hx 0 (by omega))) (cell_of_cells ho (fm_at hy 0 (by omega))) (hpg _ _ hx) (hpg _ _ hy)
end Go.Proofs.YtegohgaccmkigaaDoor

/- The package buffer: Flush over a pool as a whole. Conditions: sizes; the frames are in order. -/
set_option linter.unusedSimpArgs false
set_option linter.unusedVariables false
namespace Go.Proofs.YtegohgaccmkigaaDoor
open Go.RowKit

/-- What is written for the changed frames of a list. -/
def wrL {n : Nat} (first : Nat) (Fs : List Fm) (L : List (Fin n)) : List (Nat × List UInt8) := L.filterMap fun i => (Fs[i.1]?).map fun x => (first + x.page.toNat, x.b)
theorem wrL_snoc {n first : Nat} {Fs : List Fm} (L : List (Fin n)) (i : Fin n) {x : Fm} (hx : Fs[i.1]? = some x) : wrL first Fs (L ++ [i]) = wrL first Fs L ++ [(first + x.page.toNat, x.b)] := by
  simp [wrL, List.filterMap_append, hx]
theorem writesP_snoc : ∀ (L : List (Nat × List UInt8)) (D : DD) (p : Nat × List UInt8), writesP D (L ++ [p]) = (writesP D L).write p.1 p.2
  | [], _, _ => rfl
  | q :: L, D, p => by rw [List.cons_append, writesP, writesP, writesP_snoc L]
theorem mark_snoc {A : List Fa} {k : Nat} {x : Fa} (hx : A[k]? = some x) : dirtyMark (A.take (k + 1)) = if x.dirty = true then max (dirtyMark (A.take k)) x.mark else dirtyMark (A.take k) := by
  unfold dirtyMark
  rw [List.take_add_one, hx, List.foldl_append]
  rfl

theorem fr_or {count n : Nat} {A : List Fa} (hF : FOk count n A) {j : Nat} {y : Fa} (hy : A[j]? = some y) : -1 ≤ y.page ∧ y.page ≤ count := by
  rcases hF.fr y (List.mem_of_getElem? hy) with rfl | h
  · exact ⟨by decide, by show (-1 : Int) ≤ count; omega⟩
  · omega
theorem wr_len {n : Nat} (first : Nat) (Fs : List Fm) (L : List (Fin n)) : (wrL first Fs L).length ≤ L.length := List.length_filterMap_le _ _
theorem wr_at {n first : Nat} {Fs : List Fm} {L : List (Fin n)} {q : Nat × List UInt8} : q ∈ wrL first Fs L ↔ ∃ i ∈ L, ∃ x, Fs[i.1]? = some x ∧ q = (first + x.page.toNat, x.b) := by
  unfold wrL
  rw [List.mem_filterMap]
  constructor
  · rintro ⟨i, hi, e⟩
    cases h : Fs[i.1]? with
    | none => rw [h] at e; cases e
    | some x => rw [h] at e; exact ⟨i, hi, x, h, (Option.some.inj e).symm⟩
  · rintro ⟨i, hi, x, h, rfl⟩
    exact ⟨i, hi, by rw [h]; rfl⟩
theorem wr_ok {n first count N : Nat} {Fs : List Fm} {ds : List (Fin n)} {k : Nat} {q : Nat × List UInt8} (hmem : ∀ i : Fin n, i ∈ ds → ∃ x, Fs[i.1]? = some x ∧ x.dirty = true) (hfr : ∀ (j : Nat) (x : Fm), Fs[j]? = some x → x.dirty = true → 0 ≤ x.page ∧ x.page < count ∧ x.b.length = 256) (hN : first + count ≤ N) (hq : q ∈ wrL first Fs (ds.take k)) : q.1 < N ∧ q.2.length = 256 := by
  obtain ⟨i, hi, x, hx, rfl⟩ := wr_at.1 hq
  obtain ⟨y, hy, hd⟩ := hmem i (List.mem_of_mem_take hi)
  rw [hx] at hy
  cases hy
  have := hfr _ _ hx hd
  exact ⟨by dsimp only; omega, this.2.2⟩
theorem dirN_nodup (n : Nat) (Fs : List Fm) (k : Nat) : (dirN n Fs k).Nodup := (List.nodup_finRange n).filter _
theorem wr_nodup {n first count : Nat} {Fs : List Fm} {A : List Fa} {ds : List (Fin n)} (hA : Fs.map Fm.a = A) (hF : FOk count n A) (hfr : ∀ (j : Nat) (x : Fm), Fs[j]? = some x → x.dirty = true → 0 ≤ x.page ∧ x.page < count ∧ x.b.length = 256) (hmem : ∀ i : Fin n, i ∈ ds → ∃ x, Fs[i.1]? = some x ∧ x.dirty = true) (hd : ds.Nodup) : ((wrL first Fs ds).map Prod.fst).Nodup := by
  induction ds with
  | nil => exact List.nodup_nil
  | cons i ds ih =>
    have ih' := ih (fun j hj => hmem j (List.mem_cons_of_mem _ hj)) (List.nodup_cons.1 hd).2
    obtain ⟨x, hx, hxd⟩ := hmem i (List.mem_cons_self ..)
    have e : wrL first Fs (i :: ds) = (first + x.page.toNat, x.b) :: wrL first Fs ds := by simp [wrL, hx]
    rw [e, List.map_cons, List.nodup_cons]
    refine ⟨fun hm => ?_, ih'⟩
    obtain ⟨q, hq, e2⟩ := List.mem_map.1 hm
    obtain ⟨j, hj, y, hy, rfl⟩ := wr_at.1 hq
    obtain ⟨y', hy', hyd⟩ := hmem j (List.mem_cons_of_mem _ hj)
    rw [hy] at hy'
    cases hy'
    have h1 := hfr _ _ hx hxd
    have h2 := hfr _ _ hy hyd
    have := hF.one i.1 j.1 x.a y.a (map_a_at hA hx) (map_a_at hA hy) (by show x.page = y.page; dsimp only at e2; omega) h1.1
    exact (List.nodup_cons.1 hd).1 (by rw [Fin.ext this]; exact hj)
theorem wr_mem {n first : Nat} {Fs : List Fm} {A : List Fa} {ds : List (Fin n)} (hA : Fs.map Fm.a = A) (hn : Fs.length = n) (hds : ds.Perm (dirN n Fs n)) (q : Nat × List UInt8) : q ∈ wrL first Fs ds ↔ q ∈ dirtyL first A := by
  rw [wr_at, dirty_mem]
  constructor
  · rintro ⟨i, hi, x, hx, rfl⟩
    obtain ⟨y, hy, hd⟩ := (dirN_mem hn).1 (hds.mem_iff.1 hi)
    rw [hx] at hy
    cases hy
    exact ⟨i.1, x.a, map_a_at hA hx, hd, rfl⟩
  · rintro ⟨i, x, hx, hd, rfl⟩
    obtain ⟨z, hz, rfl⟩ := map_a_back hA hx
    have hi : i < n := by rw [← hn]; exact (List.getElem?_eq_some_iff.1 hz).1
    exact ⟨⟨i, hi⟩, hds.mem_iff.2 ((dirN_mem hn).2 ⟨z, hz, hd⟩), z, hz, rfl⟩
theorem cleanF_same {n : Nat} {Fs : List Fm} (L : List (Fin n)) {j : Nat} {x : Fm} (hx : Fs[j]? = some x) : ∃ y, (cleanF Fs L)[j]? = some y ∧ y.page = x.page ∧ y.p = x.p ∧ y.c = x.c ∧ y.b = x.b := by
  rw [cleanF_at, hx]
  exact ⟨_, rfl, by split <;> rfl, by split <;> rfl, by split <;> rfl, by split <;> rfl⟩

set_option maxHeartbeats 8000000 in
set_option maxRecDepth 100000 in
theorem Bf.flush (B : Base) (g b gf n first count hand : Nat) (gp cl gl : Nat) (W : Wl) (D : DD) (Fs : List Fm) (A : List Fa) (hA : Fs.map Fm.a = A) (hF : FOk count n A) (hdp : ∀ x ∈ A, x.dirty = true → 0 ≤ x.page)
  (hpt : ∀ (i : Nat) (x : Fm), Fs[i]? = some x → 0 < x.b.length → ∃ g, x.p = some ⟨g, 0, none⟩) (hw : WOk W D) (ho : D.Ok) (hsec : first + count ≤ D.secs.length) :
  Fn Tryd.prog B 21 #[.pointer (some ⟨g, 0, none⟩)] [poolB g b gf n first count hand (some ⟨gp, 0, none⟩) 1 cl, fmR gf n Fs, lgR (some ⟨gp, 0, none⟩) 1 cl [ifW gl], wlA gl b W, dskA b D, daA Fs]
   (fun u l => ∃ (Fs' : List Fm) (W' : Wl) (D' : DD), Fs'.map Fm.a = cleanA A ∧ u = .tuple #[] ∧ W' = (forceP W D (dirtyMark A)).1 ∧ D' = (writesP (forceP W D (dirtyMark A)).2 (dirtyL first A)).sync ∧ l = [poolB g b gf n first count hand (some ⟨gp, 0, none⟩) 1 cl, fmR gf n Fs', lgR (some ⟨gp, 0, none⟩) 1 cl [ifW gl], wlA gl b W', dskA b D', daA Fs']) := by
 have hn : Fs.length = n := by rw [← hF.len, ← hA, List.length_map]
 have hn1 := hF.n1
 have hn2 := hF.n2
 have hmb := dirtyMark_bound (A := A) fun x hx => (hF.mrk x hx).2
 have hfr : ∀ (j : Nat) (x : Fm), Fs[j]? = some x → x.dirty = true → 0 ≤ x.page ∧ x.page < count ∧ x.b.length = 256 := fun j x hx hd => by
  have h1 := map_a_at hA hx
  have := fr_ok hF h1 (hdp _ (List.mem_of_getElem? h1) hd)
  exact ⟨this.1, this.2.1, this.2.2.1⟩
 refine Fn.enter1 78 Tryd.func21 rfl rfl (Nat.le_of_ble_eq_true rfl) (fun F => ?_)
 try simp only [List.cons_append, List.nil_append]
 refine T.seq ?_
 refine T.region ?_
 refine LW.q rfl (Qt.assign rfl) ?_
 refine LW.done ?_
 refine T.seq ?_
 refine T.region ?_
 refine LW.q rfl (Qt.assign rfl) ?_
 refine LW.done ?_
 refine T.seq ?_
 refine T.seq ?_
 refine T.region ?_
 refine LW.q rfl (Qt.move rfl) ?_
 refine LW.q rfl (Qt.nilCheck rfl) ?_
 refine LW.q rfl (Qt.fieldAddr (off := 3) (by kernel_rfl) rfl) ?_
 first | refine LW.q rfl (Qt.load (by kernel_rfl) rfl rfl) ?_ | refine LW.q rfl (Qt.load (by kernel_rfl) rfl (map_at _ _ _ (by omega))) ?_ | refine LW.q rfl (Qt.load (by kernel_rfl) rfl (flat_cell0 _ _ _ (by intros; rfl) _ (by omega) (by rfl))) ?_ | refine LW.q rfl (Qt.load (by kernel_rfl) rfl (flat_cell _ _ _ (by intros; rfl) _ _ (by omega) (by rfl))) ?_ | refine LW.q rfl (Qt.load (by kernel_rfl) rfl (bytes_at _ _ (by omega))) ?_
 refine LW.q rfl (Qt.len (e := 81) (sz := 6) (by kernel_rfl) rfl) ?_
 refine LW.q rfl (Qt.move rfl) ?_
 refine LW.done ?_
 refine T.block ?_
 refine T.conv (l' := row (.slice none 0 0) 86 1 0 ((dirN n Fs 0).map (fpV gf n)) :: poolB g b gf n first count hand (some ⟨gp, 0, none⟩) 1 cl :: fmR gf n Fs :: lgR (some ⟨gp, 0, none⟩) 1 cl [ifW gl] :: wlA gl b W :: dskA b D :: daA Fs :: F) (fun w ho => by rw [dirN_zero]; exact ho.row_nil _ _) ?_
 refine T.loop (fun mz fz lz => ∃ (f0 : Fr) (k : Nat) (p : Option Addr) (m c : Nat) (mk : Int), (k ≤ n ∧ m = (dirN n Fs k).length ∧ mk = dirtyMark (A.take k)) ∧ mz = n - k ∧ fz = (upd (upd (upd (upd (upd f0 0 (.pointer (some ⟨g, 0, none⟩))) 2 (.slice p m c)) 3 (.int .i64 mk)) 12 (.int .i64 n)) 13 (.int .i64 k)) ∧ lz = row (.slice p m c) 86 1 m ((dirN n Fs k).map (fpV gf n)) :: poolB g b gf n first count hand (some ⟨gp, 0, none⟩) 1 cl :: fmR gf n Fs :: lgR (some ⟨gp, 0, none⟩) 1 cl [ifW gl] :: wlA gl b W :: dskA b D :: daA Fs :: F) ?_ ?_
 · refine ⟨_, _, ⟨_, 0, none, 0, 0, 0, ⟨Nat.zero_le _, by rw [dirN_zero]; rfl, rfl⟩, rfl, (updS rfl (updS rfl (updS rfl (updS rfl (updS rfl rfl))))), rfl⟩, Sub.any⟩
 ·
  rintro mz fz lz ⟨f0, k, p, m, c, mk, ⟨hk, hm, hmk⟩, hmz, rfl, rfl⟩
  subst mz
  try simp only [List.cons_append, List.nil_append]
  refine T.seq ?_
  refine T.region ?_
  refine LW.q rfl (Qt.lss rfl rfl) ?_
  refine LW.done ?_
  refine T.seq ?_
  refine T.condP rfl (fun hlt => ?_) (fun hlt => ?_)
  ·
   have hlt' : k < n := by omega
   obtain ⟨y, hy⟩ : ∃ y, Fs[k]? = some y := ⟨_, List.getElem?_eq_getElem (by omega)⟩
   have hyA := map_a_at hA hy
   have hym := hF.mrk _ (List.mem_of_getElem? hyA)
   have hmb2 := dirtyMark_bound (A := A.take k) fun x hx => (hF.mrk x (List.mem_of_mem_take hx)).2
   have hdl := dirN_le n Fs k
   refine T.skip ?_
   refine T.seq ?_
   refine T.block ?_
   refine T.seq ?_
   refine T.region ?_
   refine LW.q rfl (Qt.move rfl) ?_
   refine LW.q rfl (Qt.assign rfl) ?_
   refine LW.done ?_
   refine T.seq ?_
   refine T.region ?_
   refine LW.q rfl (Qt.move rfl) ?_
   refine LW.q rfl (Qt.nilCheck rfl) ?_
   refine LW.q rfl (Qt.fieldAddr (off := 3) (by kernel_rfl) rfl) ?_
   first | refine LW.q rfl (Qt.load (by kernel_rfl) rfl rfl) ?_ | refine LW.q rfl (Qt.load (by kernel_rfl) rfl (map_at _ _ _ (by omega))) ?_ | refine LW.q rfl (Qt.load (by kernel_rfl) rfl (flat_cell0 _ _ _ (by intros; rfl) _ (by omega) (by rfl))) ?_ | refine LW.q rfl (Qt.load (by kernel_rfl) rfl (flat_cell _ _ _ (by intros; rfl) _ _ (by omega) (by rfl))) ?_ | refine LW.q rfl (Qt.load (by kernel_rfl) rfl (bytes_at _ _ (by omega))) ?_
   refine LW.q rfl (Qt.move rfl) ?_
   refine LW.q rfl (Qt.index _ (e := 81) (sz := 6) (by kernel_rfl) rfl rfl rfl (by omega)) ?_
   refine LW.q rfl (Qt.assign rfl) ?_
   refine LW.done ?_
   refine T.seq ?_
   refine T.region ?_
   refine LW.q rfl (Qt.move rfl) ?_
   refine LW.q rfl (Qt.nilCheck rfl) ?_
   refine LW.q rfl (Qt.fieldAddr (off := 4) (by kernel_rfl) rfl) ?_
   refine LW.q rfl (Qt.load (v := .bool y.dirty) (by kernel_rfl) rfl (fm_at hy 4 (by omega))) ?_
   refine LW.done ?_
   refine T.cond rfl (fun hd => ?_) (fun hd => ?_)
   ·
    refine T.seq ?_
    refine T.region ?_
    refine LW.q rfl (Qt.move rfl) ?_
    refine LW.q rfl (Qt.move rfl) ?_
    refine LW.e rfl (Ef.one [_] (e := 86) (sz := 1) (by kernel_rfl) ⟨.pointer none, by kernel_rfl, rfl⟩ rfl rfl rfl (by omega) (by omega) ?_)
    intro g28
    refine LW.e rfl (Ef.append Bf.elemP rfl rfl (SrcOf.blk (by kernel_rfl) rfl (by simp [Value.oneCell'])) (by unfold maxLen; omega) (by omega) ?_)
    rintro p2 c2 hp2
    try simp only [List.cons_append, List.nil_append]
    rw [show (dirN n Fs k).map (fpV gf n) ++ [Value.pointer (some ⟨gf, 0 + k * 6, none⟩)] = (dirN n Fs (k + 1)).map (fpV gf n) by rw [dirN_succ hlt' hy, if_pos hd, List.map_append]; rfl]
    refine LW.q rfl (Qt.assign rfl) ?_
    refine LW.done ?_
    refine T.region ?_
    refine LW.q rfl (Qt.move rfl) ?_
    refine LW.q rfl (Qt.move rfl) ?_
    refine LW.q rfl (Qt.nilCheck rfl) ?_
    refine LW.q rfl (Qt.fieldAddr (off := 2) (by kernel_rfl) rfl) ?_
    refine LW.q rfl (Qt.load (v := .int .i64 y.mark) (by kernel_rfl) rfl (fm_at hy 2 (by omega))) ?_
    refine LW.q rfl (Qt.max rfl rfl) ?_
    refine LW.q rfl (Qt.assign rfl) ?_
    refine LW.done ?_
    refine T.region ?_
    refine LW.q rfl (Qt.add rfl rfl (wr64 (by omega) (by omega))) ?_
    refine LW.q rfl (Qt.move rfl) ?_
    refine LW.done ?_
    refine ⟨_, ?_, _, ⟨_, k + 1, p2, m + 1, c2, max mk y.mark, ⟨by omega, by rw [dirN_succ hlt' hy, if_pos hd, List.length_append, hm]; rfl, by rw [mark_snoc hyA, if_pos (show y.a.dirty = true from hd), hmk]; rfl⟩, rfl, (updS rfl (updS rfl (updS rfl (updS rfl (updS rfl rfl))))), rfl⟩, Sub.any⟩
    first | omega | (simp; omega)
   ·
    have hd2 : ¬ y.dirty = true := by rw [hd]; simp
    refine T.skip ?_
    refine T.region ?_
    refine LW.q rfl (Qt.add rfl rfl (wr64 (by omega) (by omega))) ?_
    refine LW.q rfl (Qt.move rfl) ?_
    refine LW.done ?_
    refine ⟨_, ?_, _, ⟨_, k + 1, p, m, c, mk, ⟨by omega, by rw [dirN_succ hlt' hy, if_neg hd2, List.append_nil]; exact hm, by rw [mark_snoc hyA, if_neg (show ¬ y.a.dirty = true from hd2)]; exact hmk⟩, rfl, (updS rfl (updS rfl (updS rfl (updS rfl (updS rfl rfl))))), rfl⟩, (by rw [dirN_succ hlt' hy, if_neg hd2, List.append_nil]; exact Sub.any)⟩
    first | omega | (simp; omega)
  ·
   obtain rfl : n = k := by omega
   have hAt : A.take n = A := by rw [← hF.len, List.take_length]
   rw [hAt] at hmk
   subst hmk
   have hdl := dirN_le n Fs n
   refine T.exit ?_
   refine T.seq ?_
   refine T.region ?_
   refine LW.q rfl (Qt.move rfl) ?_
   refine LW.e rfl (Ef.call (Bf.sort B gf n Fs hn hn1 (fun j x hx => by have h := fr_or hF (map_a_at hA hx); exact ⟨by have := h.1; show -(2 ^ 62) ≤ x.a.page; omega, by have := h.2; show x.a.page < 2 ^ 62; have := ho.max; omega⟩) (.slice p m c) (dirN n Fs n) m hm.symm (by omega)) Tryd.func39 rfl rfl rfl ?_)
   rintro _ _ ⟨rfl, ds, hds, rfl⟩
   try simp only [List.cons_append, List.nil_append]
   refine LW.done ?_
   refine T.seq ?_
   refine T.region ?_
   refine LW.q rfl (Qt.move rfl) ?_
   refine LW.q rfl (Qt.move rfl) ?_
   have hdn : ds.length = m := by rw [hds.length_eq, hm]
   obtain ⟨f1, f2, f3, f4, f5, f6, f7⟩ := hw.force ho (dirtyMark A) hw.room
   refine LW.e rfl (Ef.call (Bp.force B g b gf n first count hand gp cl gl W D (dirtyMark A) hw) Tryd.func41 rfl rfl rfl ?_)
   rintro _ _ ⟨rfl, rfl⟩
   try simp only [List.cons_append, List.nil_append]
   refine LW.done ?_
   refine T.seq ?_
   refine T.seq ?_
   refine T.region ?_
   refine LW.q rfl (Qt.move rfl) ?_
   refine LW.q rfl (Qt.len (e := 86) (sz := 1) (by kernel_rfl) rfl) ?_
   refine LW.q rfl (Qt.move rfl) ?_
   refine LW.done ?_
   refine T.block ?_
   obtain ⟨W2, hW2⟩ : ∃ W2, (forceP W D (dirtyMark A)).1 = W2 := ⟨_, rfl⟩
   obtain ⟨D2, hD2⟩ : ∃ D2, (forceP W D (dirtyMark A)).2 = D2 := ⟨_, rfl⟩
   rw [hW2, hD2] at f1
   rw [hD2] at f2 f3 f4
   rw [hW2, hD2]
   have hmem : ∀ i : Fin n, i ∈ ds → ∃ x, Fs[i.1]? = some x ∧ x.dirty = true := fun i hi => (dirN_mem hn).1 (hds.mem_iff.1 hi)
   have hwr : ∀ (k : Nat) (q : Nat × List UInt8), q ∈ wrL first Fs (ds.take k) → q.1 < D2.secs.length ∧ q.2.length = 256 := fun k q hq => wr_ok hmem hfr (by omega) hq
   rw [show fmR gf n Fs = fmR gf n (cleanF Fs (ds.take 0)) by rw [List.take_zero, cleanF_nil], show dskA b D2 = dskA b (writesP D2 (wrL first Fs (ds.take 0))) from rfl]
   refine T.loop (fun mz fz lz => ∃ (f0 : Fr) (k : Nat), (k ≤ m) ∧ mz = m - k ∧ fz = (upd (upd (upd (upd f0 0 (.pointer (some ⟨g, 0, none⟩))) 42 (.slice p m c)) 43 (.int .i64 m)) 44 (.int .i64 k)) ∧ lz = row (.slice p m c) 86 1 m (ds.map (fpV gf n)) :: poolB g b gf n first count hand (some ⟨gp, 0, none⟩) 1 cl :: fmR gf n (cleanF Fs (ds.take k)) :: lgR (some ⟨gp, 0, none⟩) 1 cl [ifW gl] :: wlA gl b W2 :: dskA b (writesP D2 (wrL first Fs (ds.take k))) :: daA Fs :: F) ?_ ?_
   · refine ⟨_, _, ⟨_, 0, Nat.zero_le _, rfl, (updS rfl (updS rfl (updS rfl (updS rfl rfl)))), rfl⟩, Sub.any⟩
   ·
    rintro mz fz lz ⟨f0, k, hk2, hmz, rfl, rfl⟩
    subst mz
    try simp only [List.cons_append, List.nil_append]
    refine T.seq ?_
    refine T.region ?_
    refine LW.q rfl (Qt.lss rfl rfl) ?_
    refine LW.done ?_
    refine T.seq ?_
    refine T.condP rfl (fun hlt2 => ?_) (fun hlt2 => ?_)
    ·
     refine T.own (fun w ho => ?_)
     obtain ⟨gd, rfl⟩ : ∃ gd, p = some ⟨gd, 0, none⟩ := (ho.slice_at (p := p) (m := m) (c := c)).2.1 (by omega)
     clear ho
     obtain ⟨i, hi⟩ : ∃ i, ds[k]? = some i := ⟨_, List.getElem?_eq_getElem (by omega)⟩
     obtain ⟨x, hx, hxd⟩ := hmem i (List.mem_of_getElem? hi)
     obtain ⟨x1, x2, x3⟩ := hfr _ _ hx hxd
     obtain ⟨gx, hgx⟩ := hpt _ _ hx (by omega)
     obtain ⟨y, hy, y1, y2, y3, y4⟩ := cleanF_same (ds.take k) hx
     obtain ⟨w1, w2, w3⟩ := writes_ok f2 (hwr k)
     have hcl : (cleanF Fs (ds.take k)).length = n := by rw [cleanF_len]; exact hn
     have hil := i.2
     have hfl := fm_len (cleanF Fs (ds.take k))
     have hwk := wr_len first Fs (ds.take k)
     have htk : (ds.take k).length ≤ 4096 := by rw [List.length_take]; omega
     have hwroom := f1.room
     have hwmx := f1.max
     refine T.skip ?_
     refine T.seq ?_
     refine T.block ?_
     refine T.seq ?_
     refine T.region ?_
     refine LW.q rfl (Qt.index _ (e := 86) (sz := 1) (by kernel_rfl) rfl rfl rfl (by omega)) ?_
     refine LW.q rfl (Qt.load (v := fpV gf n i) (by kernel_rfl) rfl (by rw [List.getElem?_map, show 0 + k * 1 = k by omega, hi]; rfl)) ?_
     refine LW.q rfl (Qt.assign rfl) ?_
     refine LW.done ?_
     refine T.seq ?_
     refine T.draw 20 ([poolB g b gf n first count hand (some ⟨gp, 0, none⟩) 1 cl, fmR gf n (cleanF Fs (ds.take k))]) (by kernel_rfl) (Nat.le_of_ble_eq_true rfl) (by kernel_rfl) ?_
     refine RW.q 0 rfl rfl (by kernel_rfl) Sub.any (Qt.move rfl) ?_
     refine RW.q 1 rfl rfl (by kernel_rfl) Sub.any (Qt.nilCheck rfl) ?_
     refine RW.q 2 rfl rfl (by kernel_rfl) Sub.any (Qt.fieldAddr0 (by kernel_rfl) rfl) ?_
     refine RW.q 3 rfl rfl (by kernel_rfl) Sub.any (Qt.fieldAddr0 (by kernel_rfl) rfl) ?_
     first | refine RW.q 4 rfl rfl (by kernel_rfl) Sub.any (Qt.load (by kernel_rfl) rfl rfl) ?_ | refine RW.q 4 rfl rfl (by kernel_rfl) Sub.any (Qt.load (by kernel_rfl) rfl (map_at _ _ _ (by omega))) ?_ | refine RW.q 4 rfl rfl (by kernel_rfl) Sub.any (Qt.load (by kernel_rfl) rfl (flat_cell0 _ _ _ (by intros; rfl) _ (by omega) (by rfl))) ?_ | refine RW.q 4 rfl rfl (by kernel_rfl) Sub.any (Qt.load (by kernel_rfl) rfl (flat_cell _ _ _ (by intros; rfl) _ _ (by omega) (by rfl))) ?_ | refine RW.q 4 rfl rfl (by kernel_rfl) Sub.any (Qt.load (by kernel_rfl) rfl (bytes_at _ _ (by omega))) ?_
     refine RW.q 5 rfl rfl (by kernel_rfl) Sub.any (Qt.move rfl) ?_
     refine RW.q 6 rfl rfl (by kernel_rfl) Sub.any (Qt.nilCheck rfl) ?_
     refine RW.q 7 rfl rfl (by kernel_rfl) Sub.any (Qt.fieldAddr0 (by kernel_rfl) rfl) ?_
     refine RW.q 8 rfl rfl (by kernel_rfl) Sub.any (Qt.fieldAddr (off := 1) (by kernel_rfl) rfl) ?_
     first | refine RW.q 9 rfl rfl (by kernel_rfl) Sub.any (Qt.load (by kernel_rfl) rfl rfl) ?_ | refine RW.q 9 rfl rfl (by kernel_rfl) Sub.any (Qt.load (by kernel_rfl) rfl (map_at _ _ _ (by omega))) ?_ | refine RW.q 9 rfl rfl (by kernel_rfl) Sub.any (Qt.load (by kernel_rfl) rfl (flat_cell0 _ _ _ (by intros; rfl) _ (by omega) (by rfl))) ?_ | refine RW.q 9 rfl rfl (by kernel_rfl) Sub.any (Qt.load (by kernel_rfl) rfl (flat_cell _ _ _ (by intros; rfl) _ _ (by omega) (by rfl))) ?_ | refine RW.q 9 rfl rfl (by kernel_rfl) Sub.any (Qt.load (by kernel_rfl) rfl (bytes_at _ _ (by omega))) ?_
     refine RW.q 10 rfl rfl (by kernel_rfl) Sub.any (Qt.move rfl) ?_
     refine RW.q 11 rfl rfl (by kernel_rfl) Sub.any (Qt.nilCheck rfl) ?_
     refine RW.q 12 rfl rfl (by kernel_rfl) Sub.any (Qt.fieldAddr0 (by kernel_rfl) rfl) ?_
     refine RW.q 13 rfl rfl (by kernel_rfl) Sub.any (Qt.load (v := .int .i64 x.page) (by kernel_rfl) rfl (by have := fm_at hy 0 (by omega); rw [Nat.add_zero] at this; rw [this]; simp [y1])) ?_
     refine RW.q 14 rfl rfl (by kernel_rfl) Sub.any (Qt.add rfl rfl (wr64 (by omega) (by omega))) ?_
     refine RW.q 15 rfl rfl (by kernel_rfl) Sub.any (Qt.move rfl) ?_
     refine RW.q 16 rfl rfl (by kernel_rfl) Sub.any (Qt.nilCheck rfl) ?_
     refine RW.q 17 rfl rfl (by kernel_rfl) Sub.any (Qt.fieldAddr (off := 1) (by kernel_rfl) rfl) ?_
     refine RW.q 18 rfl rfl (by kernel_rfl) Sub.any (Qt.load (v := .slice (some ⟨gx, 0, none⟩) 256 x.c) (by kernel_rfl) rfl (by rw [fm_at hy 1 (by omega)]; simp [y2, y3, y4, hgx, x3])) ?_
     refine RW.one 19 (by kernel_rfl) ?_
     refine RO.eS rfl rfl (Ef.call (Dk.writeF B b (writesP D2 (wrL first Fs (ds.take k))) (daA Fs) gx 0 x.c (first + x.page.toNat) _ (by omega) x.b (fun h H => daA_cells hx hgx (by omega) h H) (by omega) x3 (by omega)) Tryd.func42 rfl rfl rfl ?_)
     rintro _ _ ⟨rfl, rfl⟩
     try simp only [List.cons_append, List.nil_append]
     refine ⟨Sub.any, ?_⟩
     refine RW.done (by rfl) ?_
     simp only [List.drop_succ_cons, List.drop_zero, List.drop_nil]
     refine LW.done ?_
     refine T.region ?_
     refine LW.q rfl (Qt.move rfl) ?_
     refine LW.q rfl (Qt.nilCheck rfl) ?_
     refine LW.q rfl (Qt.fieldAddr (off := 4) (by kernel_rfl) rfl) ?_
     refine LW.e0 rfl (Ef.store1 (by kernel_rfl) rfl rfl rfl (by omega) ?_)
     rw [fm_set (y := { y with dirty := false }) hy 4 (by omega) _ rfl, cleanF_snoc (ds.take k) i hy, ← writesP_snoc (wrL first Fs (ds.take k)) D2 (first + x.page.toNat, x.b), ← wrL_snoc (ds.take k) i hx, ← show ds.take (k + 1) = ds.take k ++ [i] by rw [List.take_add_one, hi]; rfl]
     refine LW.done ?_
     refine T.region ?_
     refine LW.q rfl (Qt.add rfl rfl (wr64 (by omega) (by omega))) ?_
     refine LW.q rfl (Qt.move rfl) ?_
     refine LW.done ?_
     refine ⟨_, ?_, _, ⟨_, k + 1, by omega, rfl, (updS rfl (updS rfl (updS rfl (updS rfl rfl)))), rfl⟩, Sub.any⟩
     first | omega | (simp; omega)
    ·
     obtain rfl : m = k := by omega
     have htk : ds.take m = ds := by rw [← hdn, List.take_length]
     rw [htk]
     have hww := hwr m
     rw [htk] at hww
     obtain ⟨w1, w2, w3⟩ := writes_ok f2 hww
     have hwroom := f1.room
     have hwk := wr_len first Fs ds
     refine T.exit ?_
     refine T.region ?_
     refine LW.q rfl (Qt.move rfl) ?_
     refine LW.q rfl (Qt.nilCheck rfl) ?_
     refine LW.q rfl (Qt.fieldAddr0 (by kernel_rfl) rfl) ?_
     refine LW.q rfl (Qt.fieldAddr0 (by kernel_rfl) rfl) ?_
     first | refine LW.q rfl (Qt.load (by kernel_rfl) rfl rfl) ?_ | refine LW.q rfl (Qt.load (by kernel_rfl) rfl (map_at _ _ _ (by omega))) ?_ | refine LW.q rfl (Qt.load (by kernel_rfl) rfl (flat_cell0 _ _ _ (by intros; rfl) _ (by omega) (by rfl))) ?_ | refine LW.q rfl (Qt.load (by kernel_rfl) rfl (flat_cell _ _ _ (by intros; rfl) _ _ (by omega) (by rfl))) ?_ | refine LW.q rfl (Qt.load (by kernel_rfl) rfl (bytes_at _ _ (by omega))) ?_
     refine LW.e rfl (Ef.call (Dk.syncF B b (writesP D2 (wrL first Fs ds)) (by omega)) Tryd.func43 rfl rfl rfl ?_)
     rintro _ _ ⟨rfl, rfl⟩
     try simp only [List.cons_append, List.nil_append]
     refine LW.done ?_
     exact ⟨.inr rfl, _, _, res [] rfl trivial, ⟨cleanF Fs ds, _, _, by rw [cleanF_all hn ds (fun i hi => hds.mem_iff.2 ((dirN_mem hn).2 hi)), hA], rfl, rfl, writes_sync f2 hww (wr_nodup hA hF hfr hmem (hds.nodup_iff.2 (dirN_nodup n Fs n))) (dirty_nodup hF hdp) (wr_mem hA hn hds), by rw [cleanF_da]⟩, Sub.any⟩
end Go.Proofs.YtegohgaccmkigaaDoor

/- The texts RfA RfB RfC RfD RfE, one behind the other. Conditions: as each theorem says. -/
set_option linter.unusedSimpArgs false
set_option linter.unusedVariables false
/- The document's disk (annalsref01): walks of blank, Copy, New, Put, Read, Crash. Conditions: sizes, as each says. -/
namespace Go.Proofs.YtegohgaccmkigaaDoor
open Go.RowKit

abbrev strW (d : List UInt8) : Value := .string (strOf d)
end Go.Proofs.YtegohgaccmkigaaDoor

/- The document's disk (annalsref01): walks of blank, New, Put, Read. Conditions: sizes, as each says. -/
namespace Go.Proofs.YtegohgaccmkigaaDoor
open Go.RowKit

end Go.Proofs.YtegohgaccmkigaaDoor

/- The document's disk (annalsref01): walks of Put and Read. Conditions: sizes, as each says. -/
namespace Go.Proofs.YtegohgaccmkigaaDoor
open Go.RowKit

end Go.Proofs.YtegohgaccmkigaaDoor

/- The document's disk (annalsref01): the walk of Crash. Conditions: sizes. -/
namespace Go.Proofs.YtegohgaccmkigaaDoor
open Go.RowKit

end Go.Proofs.YtegohgaccmkigaaDoor

/- The statement DiskPlays: its functions step and looks. Conditions: sizes. -/
namespace Go.Proofs.YtegohgaccmkigaaDoor
open Go.RowKit

theorem RoS.form {B : Base} {v : Value} {cs : List Value} {n : Nat} (h : RoS B v cs) (hn : cs.length = n) : ∃ a cap, v = .slice a n cap := by
  obtain ⟨a, cap, rfl, _⟩ := h
  exact ⟨a, cap, by rw [hn]⟩
theorem RoS.str {B : Base} {S : List Assn} {v : Value} {cs : List Value} (h : RoS B v cs) : ∀ w, Own B w S → ∃ fp, Reads w v cs fp := fun _ ho => let ⟨fp, h1, _⟩ := h.reads ho; ⟨fp, h1⟩

end Go.Proofs.YtegohgaccmkigaaDoor

/- More rules: shifts of bytes, '1 << k', parts of strings, array literals. Conditions: of each rule its own. -/
set_option linter.unusedSimpArgs false
set_option linter.unusedVariables false
namespace Go.Proofs.YtegohgaccmkigaaDoor
open Go.RowKit
section
variable {P : Program} {B : Base} {n : Nat} {S l r : List Assn} {f : Fr} {K : Value → List Assn → Prop} {Φ : Post}
variable {d : Option Tmp} {ty : TypeId} {pos : String} {af : Array Edge} {gd : Option (Nat × Bool)}

end
end Go.Proofs.YtegohgaccmkigaaDoor

/- The statements' own codec (annalsref02): the sum bit by bit is the program's; bit, Get, Number. Conditions: sizes. -/
set_option linter.unusedSimpArgs false
set_option linter.unusedVariables false
namespace Go.Proofs.YtegohgaccmkigaaDoor
open Go.RowKit

end Go.Proofs.YtegohgaccmkigaaDoor

/- The statements' own Sum is the program's. Conditions: sizes. -/
set_option linter.unusedSimpArgs false
set_option linter.unusedVariables false
namespace Go.Proofs.YtegohgaccmkigaaDoor
open Go.RowKit

end Go.Proofs.YtegohgaccmkigaaDoor

/- The statement WalKeeps. Conditions: that what is handed in can be read; sizes. -/
set_option linter.unusedSimpArgs false
set_option linter.unusedVariables false
namespace Go.Proofs.YtegohgaccmkigaaDoor
open Go.RowKit

section
variable {P : Program} {B : Base} {n : Nat} {l r : List Assn} {f : Fr} {Φ : Post} {c : Code}
end
end Go.Proofs.YtegohgaccmkigaaDoor

/- The statement WalParts. Conditions: that what is handed in can be read; sizes. -/
set_option linter.unusedSimpArgs false
set_option linter.unusedVariables false
namespace Go.Proofs.YtegohgaccmkigaaDoor
open Go.RowKit

end Go.Proofs.YtegohgaccmkigaaDoor

/- The statement WalAgain. Conditions: that what is handed in can be read; sizes. -/
set_option linter.unusedSimpArgs false
set_option linter.unusedVariables false
namespace Go.Proofs.YtegohgaccmkigaaDoor
open Go.RowKit

end Go.Proofs.YtegohgaccmkigaaDoor

/- The document's log (annalsref05): Seal, Add, sector. Conditions: sizes. -/
set_option linter.unusedSimpArgs false
set_option linter.unusedVariables false
namespace Go.Proofs.YtegohgaccmkigaaDoor
open Go.RowKit

end Go.Proofs.YtegohgaccmkigaaDoor

/- The document's log (annalsref05): Force. Conditions: sizes. -/
set_option linter.unusedSimpArgs false
set_option linter.unusedVariables false
namespace Go.Proofs.YtegohgaccmkigaaDoor
open Go.RowKit

end Go.Proofs.YtegohgaccmkigaaDoor

/- The document's pool: Find, copied, force, Pinned, Unpin, Put. Conditions: sizes; the frames are in order. -/
set_option linter.unusedSimpArgs false
set_option linter.unusedVariables false
namespace Go.Proofs.YtegohgaccmkigaaDoor
open Go.RowKit

theorem findA_eq {A : List Fa} {page : Int} {i : Nat} {x : Fa} (h0 : 0 ≤ page) (hx : A[i]? = some x) (hp : x.page = page) (hf : ∀ (j : Nat), j < i → ∀ y : Fa, A[j]? = some y → y.page ≠ page) : findA A page = some i := by
  unfold findA
  rw [if_neg (by omega), List.findIdx?_eq_some_iff_getElem]
  obtain ⟨hi, e⟩ := List.getElem?_eq_some_iff.1 hx
  refine ⟨hi, by rw [e]; exact decide_eq_true hp, fun j hj => ?_⟩
  simpa using hf j hj _ (List.getElem?_eq_getElem (by omega))
end Go.Proofs.YtegohgaccmkigaaDoor

/- The document's pool: Unpin, Put, victim, Pin. Conditions: sizes; the frames are in order. -/
set_option linter.unusedSimpArgs false
set_option linter.unusedVariables false
namespace Go.Proofs.YtegohgaccmkigaaDoor
open Go.RowKit

end Go.Proofs.YtegohgaccmkigaaDoor

/- The document's pool: New, Pin, Flush. Conditions: sizes; the frames are in order. -/
set_option linter.unusedSimpArgs false
set_option linter.unusedVariables false
namespace Go.Proofs.YtegohgaccmkigaaDoor
open Go.RowKit

end Go.Proofs.YtegohgaccmkigaaDoor

/- The document's pool: Flush. Conditions: sizes; the frames are in order. -/
set_option linter.unusedSimpArgs false
set_option linter.unusedVariables false
namespace Go.Proofs.YtegohgaccmkigaaDoor
open Go.RowKit

end Go.Proofs.YtegohgaccmkigaaDoor

/- The pool and the document's side by side: what stays in order; same. Conditions: sizes. -/
set_option linter.unusedSimpArgs false
set_option linter.unusedVariables false
namespace Go.Proofs.YtegohgaccmkigaaDoor
open Go.RowKit

theorem Bp.flush (B : Base) (g b n first count hand gl : Nat) (A : List Fa) (W : Wl) (D : DD) (hF : FOk count n A) (hdp : ∀ x ∈ A, x.dirty = true → 0 ≤ x.page) (hw : WOk W D) (ho : D.Ok) (hsec : first + count ≤ D.secs.length) :
    Fn Tryd.prog B 21 #[.pointer (some ⟨g, 0, none⟩)] [plA g b n first count hand gl A, wlA gl b W, dskA b D]
      (fun u l => u = .tuple #[] ∧ l = [plA g b n first count hand gl (cleanA A), wlA gl b (forceP W D (dirtyMark A)).1, dskA b (writesP (forceP W D (dirtyMark A)).2 (dirtyL first A)).sync]) := by
  refine Fn.openPl fun q hA hptr ⟨gp, hgp⟩ => ?_
  obtain ⟨Fs, gf, pl, cl⟩ := q
  dsimp only at hA hptr hgp ⊢
  subst hgp
  simp only [plC, List.cons_append, List.nil_append]
  refine Fn.wide (Bf.flush B g b gf n first count hand gp cl gl W D Fs A hA hF hdp hptr hw ho hsec) ?_
  rintro v l' ⟨Fs', W', D', e1, rfl, e2, e3, rfl⟩
  subst e2
  subst e3
  simp only [List.cons_append, List.nil_append]
  have hs : Sub [poolB g b gf n first count hand (some ⟨gp, 0, none⟩) 1 cl, fmR gf n Fs', lgR (some ⟨gp, 0, none⟩) 1 cl [ifW gl], daA Fs', wlA gl b (forceP W D (dirtyMark A)).1, dskA b (writesP (forceP W D (dirtyMark A)).2 (dirtyL first A)).sync] [plA g b n first count hand gl (cleanA A), wlA gl b (forceP W D (dirtyMark A)).1, dskA b (writesP (forceP W D (dirtyMark A)).2 (dirtyL first A)).sync] := sub_pl ⟨Fs', gf, some ⟨gp, 0, none⟩, cl⟩ e1
  exact ⟨_, fun k K => hs k (Sub.any k K), by simp, rfl⟩

/-- All is in order. -/
structure PInv (first count n K : Nat) (s : Pl) : Prop where
  F : FOk count n s.A
  dp : ∀ x ∈ s.A, x.dirty = true → 0 ≤ x.page
  pins : ∀ x ∈ s.A, x.pins ≤ K
  hand : s.hand < n
  fit : s.W.first + s.W.count ≤ s.D.secs.length
  wst : s.W.st.length ≤ s.W.count * 256
  wdur : s.W.dur ≤ s.W.st.length
  pend : s.D.pend.length ≤ K
  ok : s.D.Ok
  sec : first + count ≤ s.D.secs.length
theorem PInv.w {first count n K : Nat} {s : Pl} (h : PInv first count n K s) (hK : K < 2 ^ 31) : WOk s.W s.D := ⟨h.fit, h.ok.max, h.wst, h.wdur, by have := h.pend; omega⟩
theorem PInv.mono {first count n K K' : Nat} {s : Pl} (h : PInv first count n K s) (hK : K ≤ K') : PInv first count n K' s := ⟨h.F, h.dp, fun x hx => by have := h.pins x hx; omega, h.hand, h.fit, h.wst, h.wdur, by have := h.pend; omega, h.ok, h.sec⟩

theorem mem_set_of {α : Type} {l : List α} {i : Nat} {a x : α} (h : x ∈ l.set i a) : x = a ∨ x ∈ l := by
  rcases List.mem_or_eq_of_mem_set h with h | h
  · exact .inr h
  · exact .inl h
theorem FOk.set {count n : Nat} {A : List Fa} (h : FOk count n A) {i : Nat} {x y : Fa} (hx : A[i]? = some x) (hp : y.page = x.page) (hb : y = fa1 ∨ (0 ≤ y.page ∧ y.page < count ∧ y.b.length = 256 ∧ 0 ≤ y.pins)) (hm : -(2 ^ 63) ≤ y.mark ∧ y.mark < 2 ^ 63) : FOk count n (A.set i y) := by
  have hil := (List.getElem?_eq_some_iff.1 hx).1
  have key : ∀ (j : Nat) (z : Fa), (A.set i y)[j]? = some z → ∃ z', A[j]? = some z' ∧ z.page = z'.page := fun j z hz => by
    rw [List.getElem?_set] at hz
    split at hz
    · rename_i e; subst e; cases hz; exact ⟨x, hx, hp⟩
    · exact ⟨z, hz, rfl⟩
  refine ⟨by rw [List.length_set]; exact h.len, h.n1, h.n2, fun z hz => ?_, fun z hz => ?_, fun j k z u hz hu e h0 => ?_⟩
  · rcases mem_set_of hz with rfl | hz
    · exact hb
    · exact h.fr z hz
  · rcases mem_set_of hz with rfl | hz
    · exact hm
    · exact h.mrk z hz
  · obtain ⟨z', a1, a2⟩ := key j z hz
    obtain ⟨u', b1, b2⟩ := key k u hu
    exact h.one j k z' u' a1 b1 (by rw [← a2, ← b2]; exact e) (by rw [← a2]; exact h0)
/-- A frame takes a page that no frame has. -/
theorem FOk.put {count n : Nat} {A : List Fa} (h : FOk count n A) {i : Nat} {page : Int} {b : List UInt8} (h0 : 0 ≤ page) (hc : page < count) (hb : b.length = 256) (hno : ∀ (j : Nat) (y : Fa), A[j]? = some y → y.page ≠ page) : FOk count n (A.set i (newA page b)) := by
  have key : ∀ (j : Nat) (z : Fa), (A.set i (newA page b))[j]? = some z → (j = i ∧ z = newA page b) ∨ (j ≠ i ∧ A[j]? = some z) := fun j z hz => by
    rw [List.getElem?_set] at hz
    split at hz
    · rename_i e; subst e
      split at hz
      · cases hz; exact .inl ⟨rfl, rfl⟩
      · cases hz
    · rename_i e; exact .inr ⟨fun e2 => e e2.symm, hz⟩
  refine ⟨by rw [List.length_set]; exact h.len, h.n1, h.n2, fun z hz => ?_, fun z hz => ?_, fun j k z u hz hu e h1 => ?_⟩
  · rcases mem_set_of hz with rfl | hz
    · exact .inr ⟨h0, hc, hb, by show (0 : Int) ≤ 1; omega⟩
    · exact h.fr z hz
  · rcases mem_set_of hz with rfl | hz
    · exact ⟨by show -(2 ^ 63) ≤ (0 : Int); omega, by show (0 : Int) < _; omega⟩
    · exact h.mrk z hz
  · rcases key j z hz with ⟨rfl, rfl⟩ | ⟨a1, a2⟩ <;> rcases key k u hu with ⟨rfl, rfl⟩ | ⟨b1, b2⟩
    · rfl
    · exact absurd e.symm (hno k u b2)
    · exact absurd e (hno j z a2)
    · exact h.one j k z u a2 b2 e h1
theorem FOk.clock {count n f : Nat} {A A' : List Fa} {h i h' : Nat} (hF : FOk count n A) (hc : clockA f A h = some (i, A', h')) (hge : ∀ (j : Nat) (y : Fa), A[j]? = some y → 0 ≤ y.page) : FOk count n A' := by
  have hl := (clock_len hc).1
  refine ⟨by rw [hl]; exact hF.len, hF.n1, hF.n2, fun z hz => ?_, fun z hz => ?_, fun j k z u hz hu e h1 => ?_⟩
  · obtain ⟨j, hj, rfl⟩ := List.getElem_of_mem hz
    obtain ⟨x, hx, q1, q2, q3, q4, q5⟩ := clock_fr hc j _ (List.getElem?_eq_getElem hj)
    have := fr_ok hF hx (hge j x hx)
    exact .inr ⟨by rw [q1]; exact this.1, by rw [q1]; exact this.2.1, by rw [q5]; exact this.2.2.1, by rw [q3]; exact this.2.2.2⟩
  · obtain ⟨j, hj, rfl⟩ := List.getElem_of_mem hz
    obtain ⟨x, hx, q1, q2, q3, q4, q5⟩ := clock_fr hc j _ (List.getElem?_eq_getElem hj)
    rw [q2]
    exact hF.mrk x (List.mem_of_getElem? hx)
  · obtain ⟨x, hx, q1, _⟩ := clock_fr hc j z hz
    obtain ⟨y, hy, r1, _⟩ := clock_fr hc k u hu
    exact hF.one j k x y hx hy (by rw [← q1, ← r1]; exact e) (by rw [← q1]; exact h1)

theorem PInv.pin {first count n K : Nat} {s : Pl} (h : PInv first count n K s) (hK : K < 2 ^ 31) (page : Int) : PInv first count n (K + 1) (pinP first count s page).1 := by
  have hc := pin_cases (first := first) (count := count) (page := page) (s := s) (by rw [h.F.len]; exact h.hand)
  generalize pinP first count s page = res at hc ⊢
  cases hc with
  | range _ => exact h.mono (Nat.le_succ _)
  | full _ _ _ => exact h.mono (Nat.le_succ _)
  | found i x hr hf hx =>
    obtain ⟨h0, x2, hx2, hp, _⟩ := findA_some hf
    rw [hx] at hx2
    cases hx2
    have hxm := List.mem_of_getElem? hx
    have hxo := fr_ok h.F hx (by omega)
    refine ⟨h.F.set (y := upA x) hx rfl (.inr ⟨hxo.1, hxo.2.1, hxo.2.2.1, by show 0 ≤ x.pins + 1; omega⟩) (h.F.mrk x hxm), fun z hz hd => ?_, fun z hz => ?_, h.hand, h.fit, h.wst, h.wdur, by have := h.pend; dsimp only; omega, h.ok, h.sec⟩
    · rcases mem_set_of hz with rfl | hz
      · exact h.dp x hxm hd
      · exact h.dp z hz hd
    · rcases mem_set_of hz with rfl | hz
      · have := h.pins x hxm; show x.pins + 1 ≤ _; omega
      · have := h.pins z hz; omega
  | free i x hr hf hi hp hfirst =>
    have hrl := h.ok.rd (first + page.toNat) (by have := h.sec; omega)
    refine ⟨h.F.put (by omega) (by omega) hrl (findA_none hf (by omega)), fun z hz hd => ?_, fun z hz => ?_, h.hand, h.fit, h.wst, h.wdur, by have := h.pend; dsimp only; omega, h.ok, h.sec⟩
    · rcases mem_set_of hz with rfl | hz
      · cases hd
      · exact h.dp z hz hd
    · rcases mem_set_of hz with rfl | hz
      · show (1 : Int) ≤ _; omega
      · have := h.pins z hz; omega
  | clock i h' A' x' hr hf hx ha hc hx' hup =>
    obtain ⟨y, hy, q1, q2, q3, q4, q5⟩ := clock_fr hc i x' hx'
    have hyo := fr_ok h.F hy (hx i y hy)
    have hsec := h.sec
    have hpe := h.pend
    obtain ⟨f1, f2, f3, f4, f5, f6, f7⟩ := (h.w hK).give (first := first) h.ok (by omega) x' (by rw [q1]; omega) (by rw [q5]; exact hyo.2.2.1)
    have hrl := f2.rd (first + page.toNat) (by rw [f3]; omega)
    have hF' := h.F.clock hc hx
    have hno : ∀ (j : Nat) (z : Fa), A'[j]? = some z → z.page ≠ page := fun j z hz => by
      obtain ⟨w, hw, r1, _⟩ := clock_fr hc j z hz
      rw [r1]; exact findA_none hf (by omega) j w hw
    refine ⟨hF'.put (by omega) (by omega) hrl hno, fun z hz hd => ?_, fun z hz => ?_, ?_, f1.fit, f1.st, f1.dur, by dsimp only; omega, f2, by rw [f3]; exact hsec⟩
    · rcases mem_set_of hz with rfl | hz
      · cases hd
      · obtain ⟨j, hj, rfl⟩ := List.getElem_of_mem hz
        obtain ⟨w, hw, r1, r2, r3, r4, r5⟩ := clock_fr hc j _ (List.getElem?_eq_getElem hj)
        rw [r1]; exact hx j w hw
    · rcases mem_set_of hz with rfl | hz
      · show (1 : Int) ≤ _; omega
      · obtain ⟨j, hj, rfl⟩ := List.getElem_of_mem hz
        obtain ⟨w, hw, r1, r2, r3, r4, r5⟩ := clock_fr hc j _ (List.getElem?_eq_getElem hj)
        have := h.pins w (List.mem_of_getElem? hw)
        rw [r3]; omega
    · have := (clock_at hc (by rw [h.F.len]; exact h.hand)).1
      rwa [h.F.len] at this
theorem PInv.setA {first count n K : Nat} {s : Pl} (h : PInv first count n K s) {A : List Fa} (hF : FOk count n A) (hd : ∀ x ∈ A, x.dirty = true → 0 ≤ x.page) (hp : ∀ x ∈ A, x.pins ≤ K) : PInv first count n K { s with A := A } := ⟨hF, hd, hp, h.hand, h.fit, h.wst, h.wdur, h.pend, h.ok, h.sec⟩
theorem PInv.unpin {first count n K : Nat} {s : Pl} (h : PInv first count n K s) (page : Int) : PInv first count n K { s with A := (unpinA s.A page).1 } := by
  unfold unpinA
  cases hp : pinnedA s.A page with
  | none => exact h
  | some r =>
    obtain ⟨i, x⟩ := r
    obtain ⟨hf, hx, hpos⟩ := pinnedA_some hp
    obtain ⟨h0, x2, hx2, hpg, _⟩ := findA_some hf
    rw [hx] at hx2
    cases hx2
    have hxm := List.mem_of_getElem? hx
    have hxo := fr_ok h.F hx (by omega)
    have hxk := h.pins x hxm
    refine h.setA (h.F.set (y := { x with pins := x.pins - 1 }) hx rfl (.inr ⟨hxo.1, hxo.2.1, hxo.2.2.1, by show 0 ≤ x.pins - 1; omega⟩) (h.F.mrk x hxm)) (fun z hz hd => ?_) (fun z hz => ?_)
    · rcases mem_set_of hz with rfl | hz
      · exact h.dp x hxm hd
      · exact h.dp z hz hd
    · rcases mem_set_of hz with rfl | hz
      · show x.pins - 1 ≤ _; omega
      · exact h.pins z hz
theorem PInv.put {first count n K : Nat} {s : Pl} (h : PInv first count n K s) (page : Int) (d : List UInt8) (mark : Int) (hm : -(2 ^ 63) ≤ mark ∧ mark < 2 ^ 63) : PInv first count n K { s with A := (putA s.A page d mark).1 } := by
  unfold putA
  cases hp : pinnedA s.A page with
  | none => exact h
  | some r =>
    obtain ⟨i, x⟩ := r
    dsimp only
    by_cases hd : d.length ≠ 256
    · rw [if_pos hd]; exact h
    · rw [if_neg hd]
      obtain ⟨hf, hx, hpos⟩ := pinnedA_some hp
      obtain ⟨h0, x2, hx2, hpg, _⟩ := findA_some hf
      rw [hx] at hx2
      cases hx2
      have hxm := List.mem_of_getElem? hx
      have hxo := fr_ok h.F hx (by omega)
      have hxk := h.F.mrk x hxm
      refine h.setA (h.F.set (y := { x with mark := max x.mark mark, dirty := true, b := d }) hx rfl (.inr ⟨hxo.1, hxo.2.1, by show d.length = 256; omega, hxo.2.2.2⟩) (by show _ ≤ max x.mark mark ∧ max x.mark mark < _; omega)) (fun z hz hd => ?_) (fun z hz => ?_)
      · rcases mem_set_of hz with rfl | hz
        · exact hxo.1
        · exact h.dp z hz hd
      · rcases mem_set_of hz with rfl | hz
        · exact h.pins x hxm
        · exact h.pins z hz
theorem PInv.flush {first count n K : Nat} {s : Pl} (h : PInv first count n K s) (hK : K < 2 ^ 31) : PInv first count n K (flushP first s) := by
  have hsec := h.sec
  obtain ⟨f1, f2, f3, f4, f5, f6, f7⟩ := (h.w hK).force h.ok (dirtyMark s.A) (h.w hK).room
  have hL : ∀ p ∈ dirtyL first s.A, p.1 < (forceP s.W s.D (dirtyMark s.A)).2.secs.length ∧ p.2.length = 256 := fun p hp => by
    obtain ⟨i, x, hx, hd, rfl⟩ := dirty_mem.1 hp
    have := fr_ok h.F hx (h.dp x (List.mem_of_getElem? hx) hd)
    exact ⟨by rw [f3]; dsimp only; omega, this.2.2.1⟩
  obtain ⟨w1, w2, w3⟩ := writes_ok f2 hL
  have hcm : ∀ x ∈ cleanA s.A, ∃ y ∈ s.A, x = { y with dirty := false } := fun x hx => by
    obtain ⟨y, hy, rfl⟩ := List.mem_map.1 hx
    exact ⟨y, hy, rfl⟩
  have hca : ∀ (j : Nat) (x : Fa), (cleanA s.A)[j]? = some x → ∃ y, s.A[j]? = some y ∧ x.page = y.page := fun j x hx => by
    unfold cleanA at hx
    rw [List.getElem?_map] at hx
    cases hy : s.A[j]? with
    | none => rw [hy] at hx; cases hx
    | some y => rw [hy] at hx; cases hx; exact ⟨y, rfl, rfl⟩
  refine ⟨⟨by simp only [flushP, cleanA, List.length_map]; exact h.F.len, h.F.n1, h.F.n2, fun x hx => ?_, fun x hx => ?_, fun i j x y hx hy e h0 => ?_⟩, fun x hx hd => ?_, fun x hx => ?_, h.hand, ?_, ?_, ?_, ?_, w1.sy, ?_⟩
  · obtain ⟨y, hy, rfl⟩ := hcm x hx
    rcases h.F.fr y hy with rfl | h
    · exact .inl rfl
    · exact .inr h
  · obtain ⟨y, hy, rfl⟩ := hcm x hx
    exact h.F.mrk y hy
  · obtain ⟨x', a1, a2⟩ := hca i x hx
    obtain ⟨y', b1, b2⟩ := hca j y hy
    exact h.F.one i j x' y' a1 b1 (by rw [← a2, ← b2]; exact e) (by rw [← a2]; exact h0)
  · obtain ⟨y, hy, rfl⟩ := hcm x hx
    cases hd
  · obtain ⟨y, hy, rfl⟩ := hcm x hx
    exact h.pins y hy
  · show (forceP s.W s.D (dirtyMark s.A)).1.first + (forceP s.W s.D (dirtyMark s.A)).1.count ≤ (writesP _ _).sync.secs.length
    rw [DD.sync_len w1, w2]; exact f1.fit
  · exact f1.st
  · exact f1.dur
  · exact Nat.zero_le _
  · show first + count ≤ (writesP _ _).sync.secs.length
    rw [DD.sync_len w1, w2, f3]; exact hsec
end Go.Proofs.YtegohgaccmkigaaDoor

/- The document's log (annalsref05): Open. Conditions: sizes. -/
set_option linter.unusedSimpArgs false
set_option linter.unusedVariables false
namespace Go.Proofs.YtegohgaccmkigaaDoor
open Go.RowKit

end Go.Proofs.YtegohgaccmkigaaDoor

/- The document's log (annalsref05): Open. Conditions: sizes. -/
set_option linter.unusedSimpArgs false
set_option linter.unusedVariables false
namespace Go.Proofs.YtegohgaccmkigaaDoor
open Go.RowKit

end Go.Proofs.YtegohgaccmkigaaDoor

/- The statement BufferPlays: a step; the whole. Conditions: that what is handed in can be read; sizes. -/
set_option linter.unusedSimpArgs false
set_option linter.unusedVariables false
namespace Go.Proofs.YtegohgaccmkigaaDoor
open Go.RowKit

structure OpB where
  kind : Int
  page : Int
  data : List UInt8
  mark : Int
/-- One call at the model. -/
def stepPl (s : Pl) (o : OpB) : Pl :=
  if o.kind = 0 then (pinP 4 8 s o.page).1 else if o.kind = 1 then { s with A := (unpinA s.A o.page).1 } else if o.kind = 2 then { s with A := (putA s.A o.page o.data o.mark).1 }
  else if o.kind = 3 then s else if o.kind = 4 then flushP 4 s else if o.kind = 5 then { s with W := (addW s.W o.data).1 } else s
end Go.Proofs.YtegohgaccmkigaaDoor

/- The statement BufferPlays. Conditions: that what is handed in can be read; sizes. -/
set_option linter.unusedSimpArgs false
set_option linter.unusedVariables false
namespace Go.Proofs.YtegohgaccmkigaaDoor
open Go.RowKit

/-- A slice of calls that lies in memory that is only read. -/
def RoLO (B : Base) (v : Value) (l : List OpB) : Prop := ∃ a cap, v = .slice a l.length cap ∧ (l = [] ∨ ∃ b o C, a = some ⟨b, o, none⟩ ∧ ROc B b C ∧
  ∀ i (hi : i < l.length), ∃ da dc, rdl C (o + i * 4) [.int .i64 l[i].kind, .int .i64 l[i].page, .slice da l[i].data.length dc, .int .i64 l[i].mark] ∧ RoS B (.slice da l[i].data.length dc) (bytesV l[i].data))
abbrev blankD : DD := ⟨List.replicate 12 zs, []⟩
theorem blank_of {D : DD} (hl : D.secs.length = 12) (hp : D.pend = []) (hz : ∀ x, 0 ≤ x → x < 12 → D.read x = List.replicate 256 0) : D = blankD :=
  DD.ext_read hp rfl (by rw [hl]; simp) fun n hn => by rw [hz n (Nat.zero_le _) (by omega)]; exact (DD.new_read (by omega)).symm
theorem PInv.start (n : Nat) (h1 : 1 ≤ n) (h2 : n ≤ 4096) : PInv 4 8 n 0 ⟨List.replicate n fa1, 0, mkW 0 4 [] 0, blankD⟩ := by
  have hx : ∀ x ∈ List.replicate n fa1, x = fa1 := fun x hx => (List.mem_replicate.1 hx).2
  refine ⟨FOk.new 8 n h1 h2, fun x h hd => ?_, fun x h => ?_, ?_, ?_, ?_, ?_, Nat.le_refl _, DD.new_ok 12 (by omega) (by omega), ?_⟩
  · rw [hx x h] at hd; cases hd
  · rw [hx x h]; decide
  · show 0 < n; omega
  · show 0 + 4 ≤ (List.replicate 12 zs).length; simp
  · simp [mkW, logB]
  · simp [mkW]
  · show 4 + 8 ≤ (List.replicate 12 zs).length; simp
theorem give_len {first : Nat} {W : Wl} {D : DD} (h : WOk W D) (ho : D.Ok) (x : Fa) : (giveP first W D x).2.secs.length = D.secs.length := by
  have := (h.force ho x.mark h.room).2.2.1
  unfold giveP
  split
  · exact this
  · rfl
theorem step_len {n K : Nat} {s : Pl} (h : PInv 4 8 n K s) (hK : K < 2 ^ 31) (o : OpB) : (stepPl s o).D.secs.length = s.D.secs.length := by
  unfold stepPl
  split
  · have hc := pin_cases (first := 4) (count := 8) (page := o.page) (s := s) (by rw [h.F.len]; exact h.hand)
    generalize pinP 4 8 s o.page = res at hc ⊢
    cases hc with
    | clock i h' A' x' hr hf hx ha hc hx' hup => exact give_len (h.w hK) h.ok x'
    | _ => rfl
  · split
    · rfl
    · split
      · rfl
      · split
        · rfl
        · split
          · obtain ⟨f1, f2, f3, f4, f5, f6, f7⟩ := (h.w hK).force h.ok (dirtyMark s.A) (h.w hK).room
            have hsec := h.sec
            have hL : ∀ p ∈ dirtyL 4 s.A, p.1 < (forceP s.W s.D (dirtyMark s.A)).2.secs.length ∧ p.2.length = 256 := fun p hp => by
              obtain ⟨i, x, hx, hd, rfl⟩ := dirty_mem.1 hp
              have := fr_ok h.F hx (h.dp x (List.mem_of_getElem? hx) hd)
              exact ⟨by rw [f3]; dsimp only; omega, this.2.2.1⟩
            obtain ⟨w1, w2, w3⟩ := writes_ok f2 hL
            show (writesP _ _).sync.secs.length = _
            rw [DD.sync_len w1, w2, f3]
          · split <;> rfl

end Go.Proofs.YtegohgaccmkigaaDoor

/- How the pool statements' struct Op reads. -/
set_option linter.unusedSimpArgs false
set_option linter.unusedVariables false
namespace Go.Proofs.YtegohgaccmkigaaDoor
open Go.ChangeShapes Go.WideShapes Go.ChangeAt Go.RowKit

def OpOR (W : World) (cs : List Value) (o : OpB) : Prop := ∃ dv fd, cs = [.int .i64 o.kind, .int .i64 o.page, dv, .int .i64 o.mark] ∧ Reads W dv (bytesV o.data) fd ∧ -(2 ^ 63) ≤ o.mark ∧ o.mark < 2 ^ 63 ∧ -(2 ^ 63) ≤ o.page ∧ o.page < 2 ^ 63
section
variable {H : Type} {enc : TypeId × Value → H} {W : World}
theorem four_of_len {α : Type} {l : List α} (h : l.length = 4) : ∃ a b c d, l = [a, b, c, d] := by
  match l, h with
  | [a, b, c, d], _ => exact ⟨a, b, c, d, rfl⟩
theorem read_opO (n : Nat) (cs : List Value) (y : DataW H × List MemPlace) (h : Tr enc Tryd.prog W n 55 cs = some y) : ∃ o : OpB, OpOR W cs o ∧ o.data.length + 1 ≤ Rows.uptoBulk y.1 := by
  obtain ⟨xs, m, rfl, rfl, hl, hx, hf⟩ := DataW.trod_struct Tryd.underlying55 h
  rw [show Tryd.prog.cellsOf 55 = 4 by kernel_rfl] at hl
  obtain ⟨c0, c1, c2, c3, rfl⟩ := four_of_len hl
  obtain ⟨x0, x1, x2, x3, rfl⟩ := four_of_len hx
  have k0 : Tryd.prog.cellsOf 3 = 1 := by kernel_rfl
  have k3 : Tryd.prog.cellsOf 41 = 1 := by kernel_rfl
  have k4 : Tryd.prog.cellsOf 2 = 1 := by kernel_rfl
  have f0 := field_of hf 0 3 0 1 rfl k0
  have f1 := field_of hf 1 3 1 1 rfl k0
  have f2 := field_of hf 2 41 2 1 rfl k3
  have f3 := field_of hf 3 2 3 1 rfl k4
  simp only [List.drop_zero, List.drop_succ_cons, List.take_succ_cons, List.take_zero, List.getElem?_cons_zero, List.getElem?_cons_succ] at f0 f1 f2 f3
  obtain ⟨i0, e0, _, _⟩ := DataW.trod_int Tryd.underlying3 f0
  obtain ⟨i1, ⟨e1, b1, b2⟩, _⟩ := read_i64 Tryd.underlying3 _ _ _ f1
  obtain ⟨ld, fd, hd, hfd, hdl⟩ := read_bytes _ _ _ f2
  obtain ⟨i3, ⟨e3, b3, b4⟩, _⟩ := read_i64 Tryd.underlying2 _ _ _ f3
  simp only [List.cons.injEq, and_true] at e0 e1 e3
  subst e0; subst e1; subst e3
  refine ⟨⟨i0, i1, ld, i3⟩, ⟨c2, fd, rfl, hd, by dsimp only; omega, by dsimp only; omega, by dsimp only; omega, by dsimp only; omega⟩, ?_⟩
  simp only [List.map_cons, List.map_nil, Rows.uptoBulk, Rows.uptoBulkAll]
  omega
end
theorem SliceAt.roLO {W : World} {v : Value} {l : List OpB} (h : SliceAt W 4 (OpOR W) v l) : RoLO (baseOf W) v l := by
  obtain ⟨sa, sc, e, h⟩ := h.ro (by omega)
  refine ⟨sa, sc, e, h.imp id ?_⟩
  rintro ⟨b, o, C, e1, e2, h⟩
  refine ⟨b, o, C, e1, e2, fun i hi => ?_⟩
  obtain ⟨cells, h1, dv, fd, rfl, hd, _⟩ := h i hi
  have rd := RoS.ofReads hd
  obtain ⟨da, dc, e, hx⟩ := rd
  rw [length_bytesV] at e
  subst e
  exact ⟨da, dc, h1, da, dc, by rw [length_bytesV], hx⟩
theorem SliceAt.okO {W : World} {v : Value} {l : List OpB} (h : SliceAt W 4 (OpOR W) v l) : ∀ x ∈ l, -(2 ^ 63) ≤ x.mark ∧ x.mark < 2 ^ 63 ∧ -(2 ^ 63) ≤ x.page ∧ x.page < 2 ^ 63 := by
  intro x hx
  obtain ⟨sa, sc, e, h⟩ := h.ro (by omega)
  rcases h with rfl | ⟨b, o, C, e1, e2, h⟩
  · cases hx
  · obtain ⟨i, hi, rfl⟩ := List.getElem_of_mem hx
    obtain ⟨cells, h1, dv, fd, rfl, hd, h2⟩ := h i hi
    exact h2
theorem opO_le : ∀ {l : List OpB} {x : OpB}, x ∈ l → x.data.length ≤ (l.map fun o => o.data.length + 1).sum
  | a :: l, x, h => by
    simp only [List.map_cons, List.sum_cons]
    rcases List.mem_cons.1 h with rfl | h
    · omega
    · have := opO_le h; omega
end Go.Proofs.YtegohgaccmkigaaDoor

/- What a page has in a pool, whichever pages give way: plain laws. Conditions: the pool is in order. -/
set_option linter.unusedSimpArgs false
set_option linter.unusedVariables false
namespace Go.Proofs.YtegohgaccmkigaaDoor
open Go.RowKit

/-- The page q has the bytes d: in its frame, or on the disk. -/
def HasP (first : Nat) (A : List Fa) (D : DD) (q : Nat) (d : List UInt8) : Prop := (∃ (i : Nat) (x : Fa), A[i]? = some x ∧ x.page = q ∧ x.b = d) ∨ ((∀ (i : Nat) (x : Fa), A[i]? = some x → x.page ≠ q) ∧ D.read (first + q) = d)
/-- What is not changed is as it is on the disk. -/
def Coh (first : Nat) (A : List Fa) (D : DD) : Prop := ∀ (i : Nat) (x : Fa), A[i]? = some x → 0 ≤ x.page → x.dirty = false → x.b = D.read (first + x.page.toNat)

theorem HasP.uniq {first count n : Nat} {A : List Fa} {D : DD} (hF : FOk count n A) {q : Nat} {d : List UInt8} (h : HasP first A D q d) {i : Nat} {x : Fa} (hx : A[i]? = some x) (hp : x.page = q) : x.b = d := by
  rcases h with ⟨j, y, h1, h2, h3⟩ | ⟨h1, _⟩
  · have e := hF.one i j x y hx h1 (by omega) (by omega)
    subst e
    rw [hx] at h1; cases h1; exact h3
  · exact absurd hp (h1 i x hx)
theorem force_read {W : Wl} {D : DD} (ho : D.Ok) (hw : WOk W D) (m : Int) {x : Nat} (hx : x < D.secs.length) (h : W.first + W.count ≤ x) : (forceP W D m).2.read x = D.read x := by
  unfold forceP
  split
  · rfl
  · exact flushE_out ho hw.fit hw.dur hw.st hx (.inr h)
theorem give_read {first : Nat} {W : Wl} {D : DD} (ho : D.Ok) (hw : WOk W D) (x : Fa) {q : Nat} (hx : q < D.secs.length) (h : W.first + W.count ≤ q) : (giveP first W D x).2.read q = if x.dirty = true ∧ first + x.page.toNat = q then x.b else D.read q := by
  unfold giveP
  by_cases hd : x.dirty = true
  · rw [if_pos hd, DD.rdW]
    rw [force_read ho hw x.mark hx h]
    by_cases e : first + x.page.toNat = q
    · rw [if_pos e, if_pos ⟨hd, e⟩]
    · rw [if_neg e, if_neg (fun k => e k.2)]
  · rw [if_neg hd, if_neg (fun k => hd k.1)]
/-- A frame changed, its page the same. -/
theorem HasP.set {first : Nat} {A : List Fa} {D : DD} {i : Nat} {x y : Fa} (hx : A[i]? = some x) (hp : y.page = x.page) (hb : y.b = x.b) {q : Nat} {d : List UInt8} (h : HasP first A D q d) : HasP first (A.set i y) D q d := by
  have hil := (List.getElem?_eq_some_iff.1 hx).1
  rcases h with ⟨j, z, h1, h2, h3⟩ | ⟨h1, h2⟩
  · by_cases e : i = j
    · subst e
      rw [hx] at h1; cases h1
      exact .inl ⟨i, y, by rw [List.getElem?_set_self hil], by rw [hp, h2], by rw [hb, h3]⟩
    · exact .inl ⟨j, z, by rw [List.getElem?_set_ne e]; exact h1, h2, h3⟩
  · refine .inr ⟨fun j z hz => ?_, h2⟩
    rw [List.getElem?_set] at hz
    split at hz
    · cases hz; rw [hp]; exact h1 i x hx
    · exact h1 j z hz
theorem Coh.set {first : Nat} {A : List Fa} {D : DD} {i : Nat} {x y : Fa} (hx : A[i]? = some x) (hp : y.page = x.page) (hb : y.dirty = false → y.b = x.b ∧ x.dirty = false) (h : Coh first A D) : Coh first (A.set i y) D := by
  have hil := (List.getElem?_eq_some_iff.1 hx).1
  intro j z hz h0 hd
  rw [List.getElem?_set] at hz
  split at hz
  · cases hz
    obtain ⟨e1, e2⟩ := hb hd
    rw [e1, hp]
    exact h i x hx (by rw [← hp]; exact h0) e2
  · exact h j z hz h0 hd
theorem findA_of {count n : Nat} {A : List Fa} (hF : FOk count n A) {i : Nat} {x : Fa} (hx : A[i]? = some x) {page : Int} (hp : x.page = page) (h0 : 0 ≤ page) : findA A page = some i :=
  findA_eq h0 hx hp fun j hj y hy e => by
    have := hF.one j i y x hy hx (by rw [e, hp]) (by rw [e]; exact h0)
    omega
theorem pinnedA_of {count n : Nat} {A : List Fa} (hF : FOk count n A) {i : Nat} {x : Fa} (hx : A[i]? = some x) {page : Int} (hp : x.page = page) (h0 : 0 ≤ page) (hq : 0 < x.pins) : pinnedA A page = some (i, x) := by
  unfold pinnedA
  rw [findA_of hF hx hp h0]
  dsimp only
  rw [hx]
  dsimp only
  rw [if_pos hq]
theorem pin_ok {first count n K : Nat} {s : Pl} (h : PInv first count n K s) (hK : K < 2 ^ 31) (page : Int) (hlog : s.W.first + s.W.count ≤ first) (hc : Coh first s.A s.D) : (∀ (q : Nat) (d : List UInt8), q < count → HasP first s.A s.D q d → HasP first (pinP first count s page).1.A (pinP first count s page).1.D q d) ∧ Coh first (pinP first count s page).1.A (pinP first count s page).1.D := by
  have hw := h.w hK
  have ho := h.ok
  have hF := h.F
  have hsec := h.sec
  have hcs := pin_cases (first := first) (count := count) (page := page) (s := s) (by rw [h.F.len]; exact h.hand)
  generalize pinP first count s page = res at hcs ⊢
  cases hcs with
  | range hr => exact ⟨fun q d _ h => h, hc⟩
  | full hr hf hx => exact ⟨fun q d _ h => h, hc⟩
  | found i x hr hf hx => exact ⟨fun q d _ h => HasP.set (y := upA x) hx rfl rfl h, Coh.set (y := upA x) hx rfl (fun e => ⟨rfl, e⟩) hc⟩
  | free i x hr hf hi hp hfirst =>
    have hil := (List.getElem?_eq_some_iff.1 hi).1
    have hno := findA_none hf (by omega)
    dsimp only
    refine ⟨fun q d hq h => ?_, fun j z hz h0 hd => ?_⟩
    · rcases h with ⟨j, z, h1, h2, h3⟩ | ⟨h1, h2⟩
      · by_cases e : i = j
        · subst e; rw [hi] at h1; cases h1; omega
        · exact .inl ⟨j, z, by rw [List.getElem?_set_ne e]; exact h1, h2, h3⟩
      · by_cases e : page = q
        · refine .inl ⟨i, _, List.getElem?_set_self hil, e, ?_⟩
          rw [← h2, e]; rfl
        · refine .inr ⟨fun j z hz => ?_, h2⟩
          rw [List.getElem?_set] at hz
          split at hz
          · cases hz; exact e
          · exact h1 j z hz
    · rw [List.getElem?_set] at hz
      split at hz
      · cases hz; rfl
      · exact hc j z hz h0 hd
  | clock i h' A' x' hr hf hx ha hc' hx' hup =>
    obtain ⟨hl, hi⟩ := clock_len hc'
    have hil : i < A'.length := by omega
    have hfr := clock_fr hc'
    have hno := findA_none hf (by omega)
    obtain ⟨x, hxx, e1, e2, e3, e4, e5⟩ := hfr i x' hx'
    have hxo := fr_ok hF hxx (hx i x hxx)
    have hx0 : 0 ≤ x'.page := by rw [e1]; exact hxo.1
    have fwd : ∀ (j : Nat) (z : Fa), s.A[j]? = some z → ∃ z', A'[j]? = some z' ∧ z'.page = z.page ∧ z'.b = z.b ∧ z'.dirty = z.dirty := fun j z hz => by
      have hj := (List.getElem?_eq_some_iff.1 hz).1
      obtain ⟨y, hy, q1, q2, q3, q4, q5⟩ := hfr j A'[j] (List.getElem?_eq_getElem (by omega))
      rw [hz] at hy; cases hy
      exact ⟨_, List.getElem?_eq_getElem (by omega), q1, q5, q4⟩
    have rd : ∀ q, q < count → (giveP first s.W s.D x').2.read (first + q) = if x'.dirty = true ∧ first + x'.page.toNat = first + q then x'.b else s.D.read (first + q) := fun q hq => give_read ho hw x' (by omega) (by omega)
    dsimp only
    refine ⟨fun q d hq h => ?_, fun j z hz h0 hd => ?_⟩
    · rcases h with ⟨j, z, h1, h2, h3⟩ | ⟨h1, h2⟩
      · by_cases e : i = j
        · subst e
          rw [hxx] at h1; cases h1
          refine .inr ⟨fun j z hz => ?_, ?_⟩
          · rw [List.getElem?_set] at hz
            split at hz
            · cases hz
              intro e; exact hno i x hxx (by rw [h2]; exact e.symm)
            · rename_i hne
              obtain ⟨y, hy, q1, _⟩ := hfr j z hz
              intro e
              exact hne (hF.one i j x y hxx hy (by rw [← q1, e, h2]) hxo.1)
          · rw [rd q hq]
            by_cases hd : x'.dirty = true
            · rw [if_pos ⟨hd, by rw [e1, h2]; simp⟩, e5, h3]
            · rw [if_neg (fun k => hd k.1)]
              have := hc i x hxx hxo.1 (by rw [← e4]; simpa using hd)
              rw [h2] at this
              rw [← h3, this]; simp
        · obtain ⟨z', a1, a2, a3, _⟩ := fwd j z h1
          exact .inl ⟨j, z', by rw [List.getElem?_set_ne e]; exact a1, by rw [a2, h2], by rw [a3, h3]⟩
      · have hrq : (giveP first s.W s.D x').2.read (first + q) = d := by
          rw [rd q hq, if_neg (fun k => h1 i x hxx (by rw [← e1]; omega)), h2]
        by_cases e : page = q
        · refine .inl ⟨i, _, List.getElem?_set_self hil, e, ?_⟩
          rw [← hrq, e]; rfl
        · refine .inr ⟨fun j z hz => ?_, hrq⟩
          rw [List.getElem?_set] at hz
          split at hz
          · cases hz; exact e
          · obtain ⟨y, hy, q1, _⟩ := hfr j z hz
            rw [q1]; exact h1 j y hy
    · rw [List.getElem?_set] at hz
      split at hz
      · cases hz; rfl
      · rename_i hne
        obtain ⟨y, hy, q1, q2, q3, q4, q5⟩ := hfr j z hz
        have hyo := fr_ok hF hy (by rw [← q1]; exact h0)
        rw [q5, hc j y hy hyo.1 (by rw [← q4]; exact hd), q1, rd _ (by omega), if_neg]
        rintro ⟨_, k⟩
        exact hne (hF.one i j x y hxx hy (by rw [← e1]; omega) hxo.1)
/-- The frame of a page that Pin was asked for, with nobody else pinning. -/
theorem pin_frame {first count n K : Nat} {s : Pl} (h : PInv first count n K s) (page : Int) (hr : ¬ (page < 0 ∨ (count : Int) ≤ page)) (hz : ∀ x ∈ s.A, x.pins = 0) : (pinP first count s page).2 = 0 ∧ ∃ (i : Nat) (x : Fa), (pinP first count s page).1.A[i]? = some x ∧ x.page = page ∧ x.pins = 1 ∧ ∀ (j : Nat) (y : Fa), (pinP first count s page).1.A[j]? = some y → j ≠ i → y.pins = 0 := by
  have hF := h.F
  have hcs := pin_cases (first := first) (count := count) (page := page) (s := s) (by rw [h.F.len]; exact h.hand)
  generalize pinP first count s page = res at hcs ⊢
  cases hcs with
  | range hr' => exact absurd hr' hr
  | full hr' hf hx =>
    have h0 : 0 < s.A.length := by rw [hF.len]; exact hF.n1
    have := hx 0 _ (List.getElem?_eq_getElem h0)
    have := hz s.A[0] (List.getElem_mem _)
    omega
  | found i x hr' hf hx =>
    obtain ⟨_, x2, hx2, hp, _⟩ := findA_some hf
    rw [hx] at hx2; cases hx2
    have hil := (List.getElem?_eq_some_iff.1 hx).1
    refine ⟨rfl, i, upA x, List.getElem?_set_self hil, hp, by simp [upA, hz x (List.mem_of_getElem? hx)], fun j y hy hne => ?_⟩
    rw [List.getElem?_set_ne (fun e => hne e.symm)] at hy
    exact hz y (List.mem_of_getElem? hy)
  | free i x hr' hf hi hp hfirst =>
    have hil := (List.getElem?_eq_some_iff.1 hi).1
    refine ⟨rfl, i, _, List.getElem?_set_self hil, rfl, rfl, fun j y hy hne => ?_⟩
    dsimp only at hy
    rw [List.getElem?_set_ne (fun e => hne e.symm)] at hy
    exact hz y (List.mem_of_getElem? hy)
  | clock i h' A' x' hr' hf hx ha hc' hx' hup =>
    have hil := (List.getElem?_eq_some_iff.1 hx').1
    refine ⟨rfl, i, _, List.getElem?_set_self hil, rfl, rfl, fun j y hy hne => ?_⟩
    dsimp only at hy
    rw [List.getElem?_set_ne (fun e => hne e.symm)] at hy
    obtain ⟨z, hz1, _, _, q3, _⟩ := clock_fr hc' j y hy
    rw [q3]; exact hz z (List.mem_of_getElem? hz1)

/-- What a flush leaves on the disk. -/
theorem flush_has {first count n K : Nat} {s : Pl} (h : PInv first count n K s) (hK : K < 2 ^ 31) (hlog : s.W.first + s.W.count ≤ first) (hc : Coh first s.A s.D) {q : Nat} (hq : q < count) {d : List UInt8} (hh : HasP first s.A s.D q d) :
    (writesP (forceP s.W s.D (dirtyMark s.A)).2 (dirtyL first s.A)).sync.read (first + q) = d := by
  have hw := h.w hK
  have hF := h.F
  have hsec := h.sec
  obtain ⟨f1, f2, f3, f4, f5, f6, f7⟩ := hw.force h.ok (dirtyMark s.A) hw.room
  have hL : ∀ p ∈ dirtyL first s.A, p.1 < (forceP s.W s.D (dirtyMark s.A)).2.secs.length ∧ p.2.length = 256 := fun p hp => by
    obtain ⟨i, x, hx, hd, rfl⟩ := dirty_mem.1 hp
    have := fr_ok hF hx (h.dp x (List.mem_of_getElem? hx) hd)
    exact ⟨by rw [f3]; dsimp only; omega, this.2.2.1⟩
  obtain ⟨w1, w2, w3⟩ := writes_ok f2 hL
  rw [DD.rdS w1 _ (by rw [w2, f3]; omega)]
  have hrd := force_read h.ok hw (dirtyMark s.A) (x := first + q) (by omega) (by omega)
  rcases hh with ⟨i, x, h1, h2, h3⟩ | ⟨h1, h2⟩
  · by_cases hd : x.dirty = true
    · exact writes_in (dirty_nodup hF h.dp) (dirty_mem.2 ⟨i, x, h1, hd, by rw [h2, h3]; simp⟩)
    · rw [writes_out, hrd]
      · have := hc i x h1 (by omega) (by simpa using hd)
        rw [h2] at this
        rw [← h3, this]; simp
      · intro p hp
        obtain ⟨j, y, hy, hyd, rfl⟩ := dirty_mem.1 hp
        have hy0 := h.dp y (List.mem_of_getElem? hy) hyd
        intro e
        dsimp only at e
        have := hF.one i j x y h1 hy (by omega) (by omega)
        subst this
        rw [h1] at hy; cases hy
        exact hd hyd
  · rw [writes_out, hrd, h2]
    intro p hp
    obtain ⟨j, y, hy, hyd, rfl⟩ := dirty_mem.1 hp
    have hy0 := h.dp y (List.mem_of_getElem? hy) hyd
    intro e
    dsimp only at e
    exact h1 j y hy (by omega)
end Go.Proofs.YtegohgaccmkigaaDoor

/- The statement BufferThere: what stays in order from call to call. Conditions: the pool is in order. -/
set_option linter.unusedSimpArgs false
set_option linter.unusedVariables false
namespace Go.Proofs.YtegohgaccmkigaaDoor
open Go.RowKit

theorem force_log {W : Wl} {D : DD} (h : WOk W D) (ho : D.Ok) (m : Int) : (forceP W D m).1.first = W.first ∧ (forceP W D m).1.count = W.count := by
  obtain ⟨f1, f2, f3, f4, f5, f6, f7⟩ := h.force ho m h.room
  exact ⟨f5, f6⟩
theorem give_log {first : Nat} {W : Wl} {D : DD} (h : WOk W D) (ho : D.Ok) (x : Fa) : (giveP first W D x).1.first = W.first ∧ (giveP first W D x).1.count = W.count := by
  unfold giveP
  split
  · exact force_log h ho x.mark
  · exact ⟨rfl, rfl⟩
theorem pin_log {first count n K : Nat} {s : Pl} (h : PInv first count n K s) (hK : K < 2 ^ 31) (page : Int) : (pinP first count s page).1.W.first = s.W.first ∧ (pinP first count s page).1.W.count = s.W.count := by
  have hc := pin_cases (first := first) (count := count) (page := page) (s := s) (by rw [h.F.len]; exact h.hand)
  generalize pinP first count s page = res at hc ⊢
  cases hc with
  | clock i h' A' x' hr hf hx ha hc hx' hup => exact give_log (h.w hK) h.ok x'
  | _ => exact ⟨rfl, rfl⟩
theorem pin_len {n K : Nat} {s : Pl} (h : PInv 4 8 n K s) (hK : K < 2 ^ 31) (page : Int) : (pinP 4 8 s page).1.D.secs.length = s.D.secs.length := by
  have := step_len h hK ⟨0, page, [], 0⟩
  unfold stepPl at this
  rwa [if_pos rfl] at this

structure ThInv (n K : Nat) (s : Pl) (last : List (List UInt8)) : Prop where
  inv : PInv 4 8 n K s
  len : s.D.secs.length = 12
  log : s.W.first + s.W.count ≤ 4
  zero : ∀ x ∈ s.A, x.pins = 0
  coh : Coh 4 s.A s.D
  ll : last.length = 8
  has : ∀ (q : Nat) (d : List UInt8), last[q]? = some d → HasP 4 s.A s.D q d

theorem ThInv.start (n : Nat) (h1 : 1 ≤ n) (h2 : n ≤ 4096) : ThInv n 0 ⟨List.replicate n fa1, 0, mkW 0 4 [] 0, blankD⟩ (List.replicate 8 (List.replicate 256 0)) := by
  have hx : ∀ x ∈ List.replicate n fa1, x = fa1 := fun x hx => (List.mem_replicate.1 hx).2
  refine ⟨PInv.start n h1 h2, List.length_replicate .., Nat.le_refl _, fun x h => by rw [hx x h], fun i x h h0 => ?_, List.length_replicate .., fun q d h => ?_⟩
  · rw [hx x (List.mem_of_getElem? h)] at h0; exact absurd h0 (by decide)
  · have hq := (List.getElem?_eq_some_iff.1 h).1
    simp only [List.length_replicate] at hq
    refine .inr ⟨fun i x h => ?_, ?_⟩
    · rw [hx x (List.mem_of_getElem? h)]
      show (-1 : Int) ≠ q
      omega
    · rw [List.getElem?_replicate] at h
      rw [if_pos hq] at h; cases h
      exact DD.new_read (by omega)

/-- A pinned frame, all others free. -/
structure OneP (page : Int) (A : List Fa) (i : Nat) (x : Fa) : Prop where
  at_ : A[i]? = some x
  pg : x.page = page
  one : x.pins = 1
  rest : ∀ (j : Nat) (y : Fa), A[j]? = some y → j ≠ i → y.pins = 0
theorem OneP.set {page : Int} {A : List Fa} {i : Nat} {x y : Fa} (h : OneP page A i x) (hp : y.page = page) (h1 : y.pins = 1) : OneP page (A.set i y) i y := by
  have hil := (List.getElem?_eq_some_iff.1 h.at_).1
  exact ⟨List.getElem?_set_self hil, hp, h1, fun j z hz hne => by rw [List.getElem?_set_ne (fun e => hne e.symm)] at hz; exact h.rest j z hz hne⟩
theorem OneP.unpin {count n : Nat} {page : Int} {A : List Fa} {i : Nat} {x : Fa} (h : OneP page A i x) (hF : FOk count n A) (h0 : 0 ≤ page) : unpinA A page = (A.set i { x with pins := 0 }, 0) ∧ unpinA (A.set i { x with pins := 0 }) page = (A.set i { x with pins := 0 }, 61) ∧ ∀ y ∈ A.set i { x with pins := 0 }, y.pins = 0 := by
  have hil := (List.getElem?_eq_some_iff.1 h.at_).1
  have h1 := pinnedA_of hF h.at_ h.pg h0 (by rw [h.one]; omega)
  have hz : ∀ (j : Nat) (y : Fa), (A.set i { x with pins := 0 })[j]? = some y → y.pins = 0 := fun j y hy => by
    by_cases e : i = j
    · subst e; rw [List.getElem?_set_self hil] at hy; cases hy; rfl
    · rw [List.getElem?_set_ne e] at hy; exact h.rest j y hy (fun q => e q.symm)
  refine ⟨?_, ?_, fun y hy => by obtain ⟨j, hj, rfl⟩ := List.getElem_of_mem hy; exact hz j _ (List.getElem?_eq_getElem hj)⟩
  · unfold unpinA
    rw [h1]
    dsimp only
    rw [h.one]; rfl
  · unfold unpinA
    cases hp : pinnedA (A.set i { x with pins := 0 }) page with
    | none => rfl
    | some r =>
      obtain ⟨_, hr, h2⟩ := pinnedA_some hp
      have := hz _ _ hr
      omega

/-- A round: the page is pinned, read, put, unpinned. -/
theorem ThInv.round {n K : Nat} {s : Pl} {last : List (List UInt8)} (h : ThInv n K s last) (hK : K < 2 ^ 31) {page : Int} (h0 : 0 ≤ page) (h8 : page < 8) :
    ∃ s1 i x, pinP 4 8 s page = (s1, 0) ∧ PInv 4 8 n (K + 1) s1 ∧ OneP page s1.A i x ∧ last[page.toNat]? = some x.b ∧ x.b.length = 256 ∧ pinnedA s1.A page = some (i, x) ∧
      ∀ (d : List UInt8) (mark : Int), -(2 ^ 63) ≤ mark ∧ mark < 2 ^ 63 → ∃ c A3, (putA s1.A page d mark).2 = c ∧ (c = 0 ∨ c = 10) ∧ unpinA (putA s1.A page d mark).1 page = (A3, 0) ∧ unpinA A3 page = (A3, 61) ∧ ThInv n (K + 1) { s1 with A := A3 } (if c = 0 then last.set page.toNat d else last) ∧ PInv 4 8 n (K + 1) { s1 with A := (putA s1.A page d mark).1 } := by
  have hr : ¬ (page < 0 ∨ ((8 : Nat) : Int) ≤ page) := by omega
  obtain ⟨hcode, i, x, hi, hp, hone, hrest⟩ := pin_frame h.inv page hr h.zero
  have hpi := h.inv.pin hK page
  obtain ⟨hhas, hcoh⟩ := pin_ok h.inv hK page h.log h.coh
  have hlen := pin_len h.inv hK page
  obtain ⟨hl1, hl2⟩ := pin_log h.inv hK page
  have hs1 : pinP 4 8 s page = ((pinP 4 8 s page).1, 0) := by rw [← hcode]
  generalize (pinP 4 8 s page).1 = s1 at *
  have hO : OneP page s1.A i x := ⟨hi, hp, hone, hrest⟩
  have hpin := pinnedA_of hpi.F hi hp h0 (by rw [hone]; omega)
  have hxo := fr_ok hpi.F hi (by omega)
  have hq8 : page.toNat < last.length := by rw [h.ll]; omega
  have hlast : last[page.toNat]? = some x.b := by
    have := (hhas page.toNat _ (by omega) (h.has page.toNat _ (List.getElem?_eq_getElem hq8))).uniq hpi.F hi (by omega)
    rw [this]; exact List.getElem?_eq_getElem hq8
  refine ⟨s1, i, x, hs1, hpi, hO, hlast, hxo.2.2.1, hpin, fun d mark hm => ?_⟩
  have hput := hpi.put page d mark hm
  by_cases hd : d.length = 256
  · have e : putA s1.A page d mark = (s1.A.set i { x with mark := max x.mark mark, dirty := true, b := d }, 0) := by
      unfold putA; rw [hpin]; dsimp only; rw [if_neg (by simp [hd])]
    rw [e] at hput ⊢
    dsimp only at hput ⊢
    have hO2 : OneP page (s1.A.set i { x with mark := max x.mark mark, dirty := true, b := d }) i { x with mark := max x.mark mark, dirty := true, b := d } := hO.set hp hone
    obtain ⟨u1, u2, u3⟩ := hO2.unpin hput.F h0
    have hun := hput.unpin page
    rw [u1] at hun
    dsimp only at hun
    have hil := (List.getElem?_eq_some_iff.1 hi).1
    refine ⟨0, _, rfl, .inl rfl, u1, u2, ?_, hput⟩
    rw [if_pos rfl]
    refine ⟨hun, hlen.trans h.len, by rw [hl1, hl2]; exact h.log, u3, ?_, by rw [List.length_set]; exact h.ll, fun q dd hq => ?_⟩
    · dsimp only
      rw [List.set_set]
      exact Coh.set (x := x) hi rfl (fun e => by cases e) (hcoh)
    · dsimp only
      rw [List.set_set]
      rw [List.getElem?_set] at hq
      split at hq
      · rename_i eq
        cases hq
        exact .inl ⟨i, _, List.getElem?_set_self hil, by show x.page = _; omega, rfl⟩
      · rename_i ne
        have hqq : q < 8 := by have := (List.getElem?_eq_some_iff.1 hq).1; rw [h.ll] at this; exact this
        rcases hhas q dd hqq (h.has q dd hq) with ⟨j, z, a1, a2, a3⟩ | ⟨a1, a2⟩
        · refine .inl ⟨j, z, ?_, a2, a3⟩
          rw [List.getElem?_set_ne]
          · exact a1
          · intro e; subst e; rw [hi] at a1; cases a1; omega
        · refine .inr ⟨fun j z hz => ?_, a2⟩
          rw [List.getElem?_set] at hz
          split at hz
          · cases hz; show x.page ≠ _; omega
          · exact a1 j z hz
  · have e : putA s1.A page d mark = (s1.A, 10) := by
      unfold putA; rw [hpin]; dsimp only; rw [if_pos hd]
    rw [e] at hput ⊢
    dsimp only at hput ⊢
    obtain ⟨u1, u2, u3⟩ := hO.unpin hpi.F h0
    have hun := hpi.unpin page
    rw [u1] at hun
    dsimp only at hun
    refine ⟨10, _, rfl, .inr rfl, u1, u2, ?_, hput⟩
    rw [if_neg (by decide)]
    refine ⟨hun, hlen.trans h.len, by rw [hl1, hl2]; exact h.log, u3, Coh.set (x := x) hi rfl (fun e => ⟨rfl, e⟩) hcoh, h.ll, fun q dd hq => ?_⟩
    have hqq : q < 8 := by have := (List.getElem?_eq_some_iff.1 hq).1; rw [h.ll] at this; exact this
    exact HasP.set (y := { x with pins := 0 }) hi rfl rfl (hhas q dd hqq (h.has q dd hq))
end Go.Proofs.YtegohgaccmkigaaDoor

/- The statement BufferEnough: with a frame for each page nothing gives way: plain laws. Conditions: the pool is in order. -/
set_option linter.unusedSimpArgs false
set_option linter.unusedVariables false
namespace Go.Proofs.YtegohgaccmkigaaDoor
open Go.RowKit

/-- Numbers below n, all different: n at most. -/
theorem nodup_below : ∀ (n : Nat) (l : List Nat), l.Nodup → (∀ x ∈ l, x < n) → l.length ≤ n
  | 0, l, _, h => by
    cases l with
    | nil => exact Nat.le_refl _
    | cons a l => exact absurd (h a (List.mem_cons_self ..)) (Nat.not_lt_zero _)
  | n + 1, l, hn, h => by
    by_cases hm : n ∈ l
    · have h1 : (l.erase n).length = l.length - 1 := List.length_erase_of_mem hm
      have h2 := nodup_below n (l.erase n) (hn.erase n) fun x hx => by
        have := h x (List.mem_of_mem_erase hx)
        have : x ≠ n := fun e => by subst e; exact (hn.not_mem_erase) hx
        omega
      omega
    · have := nodup_below n l hn fun x hx => by
        have := h x hx
        have : x ≠ n := fun e => hm (e ▸ hx)
        omega
      omega
theorem nodup_full {n : Nat} {l : List Nat} (hn : l.Nodup) (h : ∀ x ∈ l, x < n) (hl : l.length = n) {q : Nat} (hq : q < n) : q ∈ l := Classical.byContradiction fun hm => by
  have := nodup_below n (q :: l) (List.nodup_cons.2 ⟨hm, hn⟩) fun x hx => by
    rcases List.mem_cons.1 hx with rfl | hx
    · exact hq
    · exact h x hx
  simp at this
  omega
/-- With as many frames as pages, all of them taken, each page has its own. -/
theorem all_taken {n : Nat} {A : List Fa} (hF : FOk n n A) (hge : ∀ (j : Nat) (y : Fa), A[j]? = some y → 0 ≤ y.page) {q : Nat} (hq : q < n) : ∃ (i : Nat) (x : Fa), A[i]? = some x ∧ x.page = q := by
  have hl : (A.map fun x => x.page.toNat).length = n := by rw [List.length_map]; exact hF.len
  have h1 : ∀ x ∈ A.map (fun x => x.page.toNat), x < n := fun x hx => by
    obtain ⟨y, hy, rfl⟩ := List.mem_map.1 hx
    obtain ⟨i, hi, rfl⟩ := List.getElem_of_mem hy
    have := fr_ok hF (List.getElem?_eq_getElem hi) (hge i _ (List.getElem?_eq_getElem hi))
    omega
  have h2 : (A.map fun x => x.page.toNat).Nodup := by
    unfold List.Nodup
    rw [List.pairwise_iff_getElem]
    intro i j hi hj hij e
    have hjl : j < A.length := by simpa using hj
    rw [List.getElem_map, List.getElem_map] at e
    have a1 := hge i _ (List.getElem?_eq_getElem (by omega))
    have a2 := hge j _ (List.getElem?_eq_getElem hjl)
    have := hF.one i j _ _ (List.getElem?_eq_getElem (by omega)) (List.getElem?_eq_getElem hjl) (by omega) a1
    omega
  have := nodup_full h2 h1 hl hq
  obtain ⟨y, hy, e⟩ := List.mem_map.1 this
  obtain ⟨i, hi, rfl⟩ := List.getElem_of_mem hy
  have := hge i _ (List.getElem?_eq_getElem hi)
  exact ⟨i, _, List.getElem?_eq_getElem hi, by omega⟩

abbrev z256 : List UInt8 := List.replicate 256 0
structure EnInv (K : Nat) (s : Pl) (L : List (Int × List UInt8)) : Prop where
  inv : PInv 4 8 8 K s
  disk : s.D = blankD
  log : s.W = mkW 0 4 [] 0
  coh : Coh 4 s.A s.D
  has : ∀ (q : Nat), q < 8 → HasP 4 s.A s.D q ((lookL L q).getD z256)
  free : ∀ (i : Nat) (x : Fa), s.A[i]? = some x → 0 ≤ x.page → 0 < x.pins

theorem EnInv.start : EnInv 0 ⟨List.replicate 8 fa1, 0, mkW 0 4 [] 0, blankD⟩ [] := by
  have hx : ∀ x ∈ List.replicate 8 fa1, x = fa1 := fun x hx => (List.mem_replicate.1 hx).2
  refine ⟨PInv.start 8 (by omega) (by omega), rfl, rfl, fun i x h h0 => ?_, fun q hq => .inr ⟨fun i x h => ?_, DD.new_read (by omega)⟩, fun i x h h0 => ?_⟩
  · rw [hx x (List.mem_of_getElem? h)] at h0; exact absurd h0 (by decide)
  · rw [hx x (List.mem_of_getElem? h)]; show (-1 : Int) ≠ q; omega
  · rw [hx x (List.mem_of_getElem? h)] at h0; exact absurd h0 (by decide)
theorem EnInv.mono {K K' : Nat} {s : Pl} {L : List (Int × List UInt8)} (h : EnInv K s L) (hK : K ≤ K') : EnInv K' s L := ⟨h.inv.mono hK, h.disk, h.log, h.coh, h.has, h.free⟩
theorem EnInv.round {K : Nat} {s : Pl} {L : List (Int × List UInt8)} (h : EnInv K s L) (hK : K < 2 ^ 31) {page : Int} (h0 : 0 ≤ page) (h8 : page < 8) :
    ∃ s1, pinP 4 8 s page = (s1, 0) ∧ EnInv (K + 1) s1 L ∧ ∀ (d : List UInt8) (mark : Int), -(2 ^ 63) ≤ mark ∧ mark < 2 ^ 63 → ∃ c, (putA s1.A page d mark).2 = c ∧ EnInv (K + 1) { s1 with A := (putA s1.A page d mark).1 } (if c = 0 then putL L page d else L) := by
  have hpi := h.inv.pin hK page
  have hF := h.inv.F
  obtain ⟨hhas, hcoh⟩ := pin_ok h.inv hK page (by rw [h.log]; exact Nat.le_refl _) h.coh
  have hcs := pin_cases (first := 4) (count := 8) (page := page) (s := s) (by rw [hF.len]; exact h.inv.hand)
  have key : ∃ s1, pinP 4 8 s page = (s1, 0) ∧ s1.D = s.D ∧ s1.W = s.W ∧ (∀ (i : Nat) (x : Fa), s1.A[i]? = some x → 0 ≤ x.page → 0 < x.pins) ∧ ∃ (i : Nat) (x : Fa), s1.A[i]? = some x ∧ x.page = page := by
    generalize pinP 4 8 s page = res at hcs ⊢
    cases hcs with
    | range hr => exact absurd hr (by omega)
    | full hr hf hx =>
      obtain ⟨i, x, hx1, hx2⟩ := all_taken hF (fun j y hy => (hx j y hy).1) (q := page.toNat) (by omega)
      exact absurd (show x.page = page by omega) (findA_none hf h0 i x hx1)
    | clock i h' A' x' hr hf hx ha hc hx' hup =>
      obtain ⟨i, x, hx1, hx2⟩ := all_taken hF hx (q := page.toNat) (by omega)
      exact absurd (show x.page = page by omega) (findA_none hf h0 i x hx1)
    | found i x hr hf hx =>
      obtain ⟨_, x2, hx2, hp, _⟩ := findA_some hf
      rw [hx] at hx2; cases hx2
      have hil := (List.getElem?_eq_some_iff.1 hx).1
      refine ⟨_, rfl, rfl, rfl, fun j y hy hy0 => ?_, i, upA x, List.getElem?_set_self hil, hp⟩
      by_cases e : i = j
      · subst e; dsimp only at hy; rw [List.getElem?_set_self hil] at hy; cases hy
        have := h.free i x hx (by omega)
        show 0 < x.pins + 1
        omega
      · dsimp only at hy; rw [List.getElem?_set_ne e] at hy; exact h.free j y hy hy0
    | free i x hr hf hi hp hfirst =>
      have hil := (List.getElem?_eq_some_iff.1 hi).1
      refine ⟨_, rfl, rfl, rfl, fun j y hy hy0 => ?_, i, _, List.getElem?_set_self hil, rfl⟩
      by_cases e : i = j
      · subst e; dsimp only at hy; rw [List.getElem?_set_self hil] at hy; cases hy
        show (0 : Int) < 1
        omega
      · dsimp only at hy; rw [List.getElem?_set_ne e] at hy; exact h.free j y hy hy0
  obtain ⟨s1, e1, e2, e3, hfree, i, x, hi, hp⟩ := key
  rw [e1] at hpi hhas hcoh
  dsimp only at hpi hhas hcoh
  have hE : EnInv (K + 1) s1 L := ⟨hpi, by rw [e2]; exact h.disk, by rw [e3]; exact h.log, hcoh, fun q hq => hhas q _ hq (h.has q hq), hfree⟩
  refine ⟨s1, e1, hE, fun d mark hm => ?_⟩
  have hpin := pinnedA_of hpi.F hi hp h0 (hfree i x hi (by omega))
  have hput := hpi.put page d mark hm
  have hil := (List.getElem?_eq_some_iff.1 hi).1
  by_cases hd : d.length = 256
  · have e : putA s1.A page d mark = (s1.A.set i { x with mark := max x.mark mark, dirty := true, b := d }, 0) := by
      unfold putA; rw [hpin]; dsimp only; rw [if_neg (by simp [hd])]
    rw [e] at hput ⊢
    refine ⟨0, rfl, hput, hE.disk, hE.log, Coh.set (x := x) hi rfl (fun e => by cases e) hcoh, fun q hq => ?_, fun j y hy hy0 => ?_⟩
    · rw [if_pos rfl]
      by_cases eq : page = q
      · have hl : lookL (putL L page d) q = some d := by rw [← eq]; exact look_put_same _ _ _
        rw [hl]
        exact .inl ⟨i, _, List.getElem?_set_self hil, by show x.page = _; omega, rfl⟩
      · have hl : lookL (putL L page d) q = lookL L q := look_put_ne _ eq _
        rw [hl]
        rcases hE.has q hq with ⟨j, z, a1, a2, a3⟩ | ⟨a1, a2⟩
        · refine .inl ⟨j, z, ?_, a2, a3⟩
          dsimp only
          rw [List.getElem?_set_ne]
          · exact a1
          · intro e; subst e; rw [hi] at a1; cases a1; omega
        · refine .inr ⟨fun j z hz => ?_, a2⟩
          dsimp only at hz
          by_cases e : i = j
          · subst e; rw [List.getElem?_set_self hil] at hz; cases hz; show x.page ≠ _; omega
          · rw [List.getElem?_set_ne e] at hz; exact a1 j z hz
    · dsimp only at hy
      by_cases e : i = j
      · subst e; rw [List.getElem?_set_self hil] at hy; cases hy; exact hfree i x hi (by omega)
      · rw [List.getElem?_set_ne e] at hy; exact hfree j y hy hy0
  · have e : putA s1.A page d mark = (s1.A, 10) := by
      unfold putA; rw [hpin]; dsimp only; rw [if_pos hd]
    rw [e]
    exact ⟨10, rfl, by rw [if_neg (by decide)]; exact hE⟩
end Go.Proofs.YtegohgaccmkigaaDoor

/- The statement BufferEnough. Conditions: that what is handed in can be read; sizes. -/
set_option linter.unusedSimpArgs false
set_option linter.unusedVariables false
namespace Go.Proofs.YtegohgaccmkigaaDoor
open Go.RowKit

abbrev kI (a : Int) : Value := .int .i64 a
theorem Bk.mok : MapOk Tryd.prog 53 kI (.string ⟨#[]⟩) := MapOk.mk3 3 9 (.int .i64) Tryd.underlying53 Tryd.underlying3 (fun _ => rfl) (by kernel_rfl) i64_inj

set_option maxHeartbeats 16000000 in
set_option maxRecDepth 100000 in
theorem Bp.enough (B : Base) (sv : Value) (sc : List OpB) (hsv : RoLO B sv sc) (hsl : sc.length ≤ 1048576) (hop : ∀ x ∈ sc, x.data.length ≤ 1048576 ∧ -(2 ^ 63) ≤ x.mark ∧ x.mark < 2 ^ 63) :
  Fn Tryd.prog B 5 #[sv] [] (fun v l => v = .bool true ∧ l = []) := by
 obtain ⟨sa, scap, rfl, hsc⟩ := hsv
 refine Fn.enter1 126 Tryd.func5 rfl rfl (Nat.le_of_ble_eq_true rfl) (fun F => ?_)
 try simp only [List.cons_append, List.nil_append]
 refine T.seq ?_
 refine T.region ?_
 refine LW.q rfl (Qt.assign rfl) ?_
 refine LW.done ?_
 refine T.seq ?_
 refine T.seq ?_
 refine T.region ?_
 refine LW.e rfl (Ef.call (Bf.awake B) Tryd.func8 rfl rfl rfl ?_)
 rintro _ _ ⟨rfl, rfl⟩
 try simp only [List.cons_append, List.nil_append]
 first | refine LW.q rfl (Qt.notP rfl) ?_ | refine LW.q rfl (Qt.notB rfl) ?_
 refine LW.done ?_
 first | refine T.condF rfl ?_ | refine T.condPF rfl (by omega) ?_ | refine T.condBF rfl (by omega) ?_
 refine T.skip ?_
 refine T.seq ?_
 refine T.region ?_
 refine LW.e rfl (Ef.call (Bp.laid B 8 8 rfl (by omega) (by omega)) Tryd.func14 rfl rfl rfl ?_)
 rintro _ _ ⟨gb, b, gl, g, D, rfl, ho, hl, hp, hz, rfl⟩
 try simp only [List.cons_append, List.nil_append]
 obtain rfl := blank_of hl hp hz
 refine LW.q rfl (Qt.assign rfl) ?_
 refine LW.done ?_
 refine T.seq ?_
 refine T.seq ?_
 refine T.region ?_
 refine LW.q rfl (Qt.move rfl) ?_
 first | refine LW.q rfl (Qt.eqlNil (by kernel_rfl) rfl rfl) ?_ | refine LW.q rfl (Qt.eqlNN (by kernel_rfl) rfl rfl) ?_
 refine LW.done ?_
 first | refine T.condF rfl ?_ | refine T.condPF rfl (by omega) ?_ | refine T.condBF rfl (by omega) ?_
 refine T.skip ?_
 refine T.seq ?_
 refine T.region ?_
 refine LW.e rfl (Ef.makeMap Int (List UInt8) kI strW ?_)
 rintro gm
 try simp only [List.cons_append, List.nil_append]
 refine LW.q rfl (Qt.assign rfl) ?_
 refine LW.done ?_
 refine T.seq ?_
 refine T.seq ?_
 refine T.region ?_
 refine LW.q rfl (Qt.move rfl) ?_
 refine LW.q rfl (Qt.len (e := 55) (sz := 4) (by kernel_rfl) rfl) ?_
 refine LW.q rfl (Qt.move rfl) ?_
 refine LW.done ?_
 refine T.block ?_
 have hinv0 := EnInv.start
 refine T.loop (fun mz fz lz => ∃ (f0 : Fr) (k : Nat) (s : Pl) (L : List (Int × List UInt8)), (k ≤ sc.length ∧ EnInv k s L) ∧ mz = sc.length - k ∧ fz = (upd (upd (upd (upd (upd f0 3 (.pointer (some ⟨gb, 0, none⟩))) 4 (.map (some gm))) 21 (.slice sa sc.length scap)) 22 (.int .i64 sc.length)) 23 (.int .i64 k)) ∧ lz = benchB gb b gl g :: plA g b 8 4 8 s.hand gl s.A :: wlA gl b s.W :: dskA b s.D :: mpA kI strW gm L :: F) ?_ ?_
 · refine ⟨_, _, ⟨_, 0, ⟨List.replicate 8 fa1, 0, mkW 0 4 [] 0, blankD⟩, [], ⟨Nat.zero_le _, hinv0⟩, rfl, (updS rfl (updS rfl (updS rfl (updS rfl (updS rfl rfl))))), rfl⟩, Sub.any⟩
 ·
  rintro mz fz lz ⟨f0, k, s, L, ⟨hk, hE⟩, hmz, rfl, rfl⟩
  subst mz
  try simp only [List.cons_append, List.nil_append]
  refine T.seq ?_
  refine T.region ?_
  refine LW.q rfl (Qt.lss rfl rfl) ?_
  refine LW.done ?_
  refine T.seq ?_
  refine T.condP rfl (fun hlt => ?_) (fun hlt => ?_)
  ·
   obtain ⟨kb, ko, C, rfl, hro, hC⟩ := hsc.resolve_left (by intro e; rw [e] at hlt; simp at hlt; omega)
   obtain ⟨da, dc, hrd, hdv⟩ := hC k (by omega)
   obtain ⟨hxl, hxm⟩ := hop sc[k] (List.getElem_mem _)
   obtain ⟨o, ho⟩ : ∃ o, sc[k] = o := ⟨_, rfl⟩
   rw [ho] at hrd hdv hxl hxm
   have hpins : ∀ x ∈ s.A, x.pins < 2 ^ 62 := fun x hx => by have := hE.inv.pins x hx; omega
   have hpe := hE.inv.pend
   have hsec := hE.inv.sec
   by_cases hr : o.page < 0 ∨ ((8 : Nat) : Int) ≤ o.page
   ·
    refine T.skip ?_
    refine T.seq ?_
    refine T.block ?_
    refine T.seq ?_
    refine T.region ?_
    refine LW.q rfl (Qt.index _ (e := 55) (sz := 4) (by kernel_rfl) rfl rfl rfl (by omega)) ?_
    refine LW.q rfl (Qt.loadAgg [_, _, _, _] (by kernel_rfl) rfl hrd) ?_
    refine LW.e rfl (Ef.alloc [.int .i64 0, .int .i64 0, .slice none 0 0, .int .i64 0] (by unfold zeroB; kernel_rfl) ?_)
    intro g6
    refine LW.e0 rfl (Ef.store [_, _, _, _] (by kernel_rfl) rfl rfl rfl rfl (by simp) ?_)
    try simp only [splice, List.length_cons, List.length_nil, List.drop_succ_cons, List.cons_append, List.take_succ_cons, List.take_zero, List.drop_zero, List.nil_append, List.append_nil]
    refine LW.done ?_
    refine T.seq ?_
    refine T.seq ?_
    refine T.drawBl 8 none (by kernel_rfl) (Nat.le_of_ble_eq_true rfl) (by kernel_rfl) ?_
    refine RW.q 0 rfl rfl (by kernel_rfl) Sub.any (Qt.move rfl) ?_
    refine RW.q 1 rfl rfl (by kernel_rfl) Sub.any (Qt.nilCheck rfl) ?_
    refine RW.q 2 rfl rfl (by kernel_rfl) Sub.any (Qt.fieldAddr (off := 2) (by kernel_rfl) rfl) ?_
    first | refine RW.q 3 rfl rfl (by kernel_rfl) Sub.any (Qt.load (by kernel_rfl) rfl rfl) ?_ | refine RW.q 3 rfl rfl (by kernel_rfl) Sub.any (Qt.load (by kernel_rfl) rfl (map_at _ _ _ (by omega))) ?_ | refine RW.q 3 rfl rfl (by kernel_rfl) Sub.any (Qt.load (by kernel_rfl) rfl (flat_cell0 _ _ _ (by intros; rfl) _ (by omega) (by rfl))) ?_ | refine RW.q 3 rfl rfl (by kernel_rfl) Sub.any (Qt.load (by kernel_rfl) rfl (flat_cell _ _ _ (by intros; rfl) _ _ (by omega) (by rfl))) ?_ | refine RW.q 3 rfl rfl (by kernel_rfl) Sub.any (Qt.load (by kernel_rfl) rfl (bytes_at _ _ (by omega))) ?_
    refine RW.q 4 rfl rfl (by kernel_rfl) Sub.any (Qt.fieldAddr (off := 1) (by kernel_rfl) rfl) ?_
    first | refine RW.q 5 rfl rfl (by kernel_rfl) Sub.any (Qt.load (by kernel_rfl) rfl rfl) ?_ | refine RW.q 5 rfl rfl (by kernel_rfl) Sub.any (Qt.load (by kernel_rfl) rfl (map_at _ _ _ (by omega))) ?_ | refine RW.q 5 rfl rfl (by kernel_rfl) Sub.any (Qt.load (by kernel_rfl) rfl (flat_cell0 _ _ _ (by intros; rfl) _ (by omega) (by rfl))) ?_ | refine RW.q 5 rfl rfl (by kernel_rfl) Sub.any (Qt.load (by kernel_rfl) rfl (flat_cell _ _ _ (by intros; rfl) _ _ (by omega) (by rfl))) ?_ | refine RW.q 5 rfl rfl (by kernel_rfl) Sub.any (Qt.load (by kernel_rfl) rfl (bytes_at _ _ (by omega))) ?_
    refine RW.one 6 (by kernel_rfl) ?_
    refine RO.eS rfl rfl (Ef.call (Bp.pin B g b 8 4 8 s.hand gl s.A s.W s.D o.page hE.inv.F hpins hE.inv.hand (hE.inv.w (by omega)) hE.inv.ok (by omega) (by omega)) Tryd.func15 rfl rfl rfl ?_)
    rintro _ _ ⟨rfl, rfl⟩
    try simp only [List.cons_append, List.nil_append]
    rw [show (⟨s.A, s.hand, s.W, s.D⟩ : Pl) = s from rfl, pinP_range hr]
    refine ⟨Sub.any, ?_⟩
    refine RW.q 7 rfl rfl (by kernel_rfl) Sub.any (Qt.neq rfl rfl) ?_
    refine RW.done (by rfl) ?_
    simp only [List.drop_succ_cons, List.drop_zero, List.drop_nil]
    refine LW.done ?_
    first | refine T.condT rfl ?_ | refine T.condPT rfl (by omega) ?_ | refine T.condBT rfl (by omega) ?_
    refine T.seq ?_
    refine T.seq ?_
    refine T.region ?_
    refine LW.q rfl (Qt.fieldAddr (off := 1) (by kernel_rfl) rfl) ?_
    first | refine LW.q rfl (Qt.load (by kernel_rfl) rfl rfl) ?_ | refine LW.q rfl (Qt.load (by kernel_rfl) rfl (map_at _ _ _ (by omega))) ?_ | refine LW.q rfl (Qt.load (by kernel_rfl) rfl (flat_cell0 _ _ _ (by intros; rfl) _ (by omega) (by rfl))) ?_ | refine LW.q rfl (Qt.load (by kernel_rfl) rfl (flat_cell _ _ _ (by intros; rfl) _ _ (by omega) (by rfl))) ?_ | refine LW.q rfl (Qt.load (by kernel_rfl) rfl (bytes_at _ _ (by omega))) ?_
    refine LW.q rfl (Qt.geq rfl rfl) ?_
    refine LW.q rfl (Qt.move rfl) ?_
    refine LW.split (t := 38) rfl (fun h0 => ?_) (fun h0 => ?_)
    ·
     try replace h0 := of_decide_eq_true h0
     refine LW.q rfl (Qt.fieldAddr (off := 1) (by kernel_rfl) rfl) ?_
     first | refine LW.q rfl (Qt.load (by kernel_rfl) rfl rfl) ?_ | refine LW.q rfl (Qt.load (by kernel_rfl) rfl (map_at _ _ _ (by omega))) ?_ | refine LW.q rfl (Qt.load (by kernel_rfl) rfl (flat_cell0 _ _ _ (by intros; rfl) _ (by omega) (by rfl))) ?_ | refine LW.q rfl (Qt.load (by kernel_rfl) rfl (flat_cell _ _ _ (by intros; rfl) _ _ (by omega) (by rfl))) ?_ | refine LW.q rfl (Qt.load (by kernel_rfl) rfl (bytes_at _ _ (by omega))) ?_
     refine LW.q rfl (Qt.lss rfl rfl) ?_
     refine LW.q rfl (Qt.pick rfl rfl) ?_
     refine LW.done ?_
     first | refine T.condF rfl ?_ | refine T.condPF rfl (by omega) ?_ | refine T.condBF rfl (by omega) ?_
     refine T.skip ?_
     refine T.exit ?_
     refine T.region ?_
     refine LW.q rfl (Qt.add rfl rfl (wr64 (by omega) (by omega))) ?_
     refine LW.q rfl (Qt.move rfl) ?_
     refine LW.done ?_
     refine ⟨_, ?_, _, ⟨_, k + 1, s, L, ⟨by omega, hE.mono (Nat.le_succ _)⟩, rfl, (updS rfl (updS rfl (updS rfl (updS rfl (updS rfl rfl))))), rfl⟩, Sub.any⟩
     first | omega | (simp; omega)
    ·
     try replace h0 := of_decide_eq_false h0
     refine LW.s rfl ?_
     refine LW.s rfl ?_
     refine LW.s rfl ?_
     refine LW.q rfl (Qt.pick rfl rfl) ?_
     refine LW.done ?_
     first | refine T.condF rfl ?_ | refine T.condPF rfl (by omega) ?_ | refine T.condBF rfl (by omega) ?_
     refine T.skip ?_
     refine T.exit ?_
     refine T.region ?_
     refine LW.q rfl (Qt.add rfl rfl (wr64 (by omega) (by omega))) ?_
     refine LW.q rfl (Qt.move rfl) ?_
     refine LW.done ?_
     refine ⟨_, ?_, _, ⟨_, k + 1, s, L, ⟨by omega, hE.mono (Nat.le_succ _)⟩, rfl, (updS rfl (updS rfl (updS rfl (updS rfl (updS rfl rfl))))), rfl⟩, Sub.any⟩
     first | omega | (simp; omega)
   ·
    obtain ⟨s1, hpin, hE1, hput⟩ := hE.round (by omega) (page := o.page) (by omega) (by omega)
    obtain ⟨c, hc, hE2⟩ := hput o.data o.mark hxm
    refine T.skip ?_
    refine T.seq ?_
    refine T.block ?_
    refine T.seq ?_
    refine T.region ?_
    refine LW.q rfl (Qt.index _ (e := 55) (sz := 4) (by kernel_rfl) rfl rfl rfl (by omega)) ?_
    refine LW.q rfl (Qt.loadAgg [_, _, _, _] (by kernel_rfl) rfl hrd) ?_
    refine LW.e rfl (Ef.alloc [.int .i64 0, .int .i64 0, .slice none 0 0, .int .i64 0] (by unfold zeroB; kernel_rfl) ?_)
    intro g6
    refine LW.e0 rfl (Ef.store [_, _, _, _] (by kernel_rfl) rfl rfl rfl rfl (by simp) ?_)
    try simp only [splice, List.length_cons, List.length_nil, List.drop_succ_cons, List.cons_append, List.take_succ_cons, List.take_zero, List.drop_zero, List.nil_append, List.append_nil]
    refine LW.done ?_
    refine T.seq ?_
    refine T.seq ?_
    refine T.drawBl 8 none (by kernel_rfl) (Nat.le_of_ble_eq_true rfl) (by kernel_rfl) ?_
    refine RW.q 0 rfl rfl (by kernel_rfl) Sub.any (Qt.move rfl) ?_
    refine RW.q 1 rfl rfl (by kernel_rfl) Sub.any (Qt.nilCheck rfl) ?_
    refine RW.q 2 rfl rfl (by kernel_rfl) Sub.any (Qt.fieldAddr (off := 2) (by kernel_rfl) rfl) ?_
    first | refine RW.q 3 rfl rfl (by kernel_rfl) Sub.any (Qt.load (by kernel_rfl) rfl rfl) ?_ | refine RW.q 3 rfl rfl (by kernel_rfl) Sub.any (Qt.load (by kernel_rfl) rfl (map_at _ _ _ (by omega))) ?_ | refine RW.q 3 rfl rfl (by kernel_rfl) Sub.any (Qt.load (by kernel_rfl) rfl (flat_cell0 _ _ _ (by intros; rfl) _ (by omega) (by rfl))) ?_ | refine RW.q 3 rfl rfl (by kernel_rfl) Sub.any (Qt.load (by kernel_rfl) rfl (flat_cell _ _ _ (by intros; rfl) _ _ (by omega) (by rfl))) ?_ | refine RW.q 3 rfl rfl (by kernel_rfl) Sub.any (Qt.load (by kernel_rfl) rfl (bytes_at _ _ (by omega))) ?_
    refine RW.q 4 rfl rfl (by kernel_rfl) Sub.any (Qt.fieldAddr (off := 1) (by kernel_rfl) rfl) ?_
    first | refine RW.q 5 rfl rfl (by kernel_rfl) Sub.any (Qt.load (by kernel_rfl) rfl rfl) ?_ | refine RW.q 5 rfl rfl (by kernel_rfl) Sub.any (Qt.load (by kernel_rfl) rfl (map_at _ _ _ (by omega))) ?_ | refine RW.q 5 rfl rfl (by kernel_rfl) Sub.any (Qt.load (by kernel_rfl) rfl (flat_cell0 _ _ _ (by intros; rfl) _ (by omega) (by rfl))) ?_ | refine RW.q 5 rfl rfl (by kernel_rfl) Sub.any (Qt.load (by kernel_rfl) rfl (flat_cell _ _ _ (by intros; rfl) _ _ (by omega) (by rfl))) ?_ | refine RW.q 5 rfl rfl (by kernel_rfl) Sub.any (Qt.load (by kernel_rfl) rfl (bytes_at _ _ (by omega))) ?_
    refine RW.one 6 (by kernel_rfl) ?_
    refine RO.eS rfl rfl (Ef.call (Bp.pin B g b 8 4 8 s.hand gl s.A s.W s.D o.page hE.inv.F hpins hE.inv.hand (hE.inv.w (by omega)) hE.inv.ok (by omega) (by omega)) Tryd.func15 rfl rfl rfl ?_)
    rintro _ _ ⟨rfl, rfl⟩
    try simp only [List.cons_append, List.nil_append]
    rw [show (⟨s.A, s.hand, s.W, s.D⟩ : Pl) = s from rfl, hpin]
    refine ⟨Sub.any, ?_⟩
    refine RW.q 7 rfl rfl (by kernel_rfl) Sub.any (Qt.neq rfl rfl) ?_
    refine RW.done (by rfl) ?_
    simp only [List.drop_succ_cons, List.drop_zero, List.drop_nil]
    refine LW.done ?_
    first | refine T.condF rfl ?_ | refine T.condPF rfl (by omega) ?_ | refine T.condBF rfl (by omega) ?_
    have hd1 := hE1.disk
    refine T.skip ?_
    refine T.seq ?_
    refine T.seq ?_
    refine T.drawBl 12 none (by kernel_rfl) (Nat.le_of_ble_eq_true rfl) (by kernel_rfl) ?_
    refine RW.q 0 rfl rfl (by kernel_rfl) Sub.any (Qt.move rfl) ?_
    refine RW.q 1 rfl rfl (by kernel_rfl) Sub.any (Qt.nilCheck rfl) ?_
    refine RW.q 2 rfl rfl (by kernel_rfl) Sub.any (Qt.fieldAddr (off := 2) (by kernel_rfl) rfl) ?_
    first | refine RW.q 3 rfl rfl (by kernel_rfl) Sub.any (Qt.load (by kernel_rfl) rfl rfl) ?_ | refine RW.q 3 rfl rfl (by kernel_rfl) Sub.any (Qt.load (by kernel_rfl) rfl (map_at _ _ _ (by omega))) ?_ | refine RW.q 3 rfl rfl (by kernel_rfl) Sub.any (Qt.load (by kernel_rfl) rfl (flat_cell0 _ _ _ (by intros; rfl) _ (by omega) (by rfl))) ?_ | refine RW.q 3 rfl rfl (by kernel_rfl) Sub.any (Qt.load (by kernel_rfl) rfl (flat_cell _ _ _ (by intros; rfl) _ _ (by omega) (by rfl))) ?_ | refine RW.q 3 rfl rfl (by kernel_rfl) Sub.any (Qt.load (by kernel_rfl) rfl (bytes_at _ _ (by omega))) ?_
    refine RW.q 4 rfl rfl (by kernel_rfl) Sub.any (Qt.fieldAddr (off := 1) (by kernel_rfl) rfl) ?_
    first | refine RW.q 5 rfl rfl (by kernel_rfl) Sub.any (Qt.load (by kernel_rfl) rfl rfl) ?_ | refine RW.q 5 rfl rfl (by kernel_rfl) Sub.any (Qt.load (by kernel_rfl) rfl (map_at _ _ _ (by omega))) ?_ | refine RW.q 5 rfl rfl (by kernel_rfl) Sub.any (Qt.load (by kernel_rfl) rfl (flat_cell0 _ _ _ (by intros; rfl) _ (by omega) (by rfl))) ?_ | refine RW.q 5 rfl rfl (by kernel_rfl) Sub.any (Qt.load (by kernel_rfl) rfl (flat_cell _ _ _ (by intros; rfl) _ _ (by omega) (by rfl))) ?_ | refine RW.q 5 rfl rfl (by kernel_rfl) Sub.any (Qt.load (by kernel_rfl) rfl (bytes_at _ _ (by omega))) ?_
    refine RW.q 6 rfl rfl (by kernel_rfl) Sub.any (Qt.fieldAddr (off := 2) (by kernel_rfl) rfl) ?_
    first | refine RW.q 7 rfl rfl (by kernel_rfl) Sub.any (Qt.load (by kernel_rfl) rfl rfl) ?_ | refine RW.q 7 rfl rfl (by kernel_rfl) Sub.any (Qt.load (by kernel_rfl) rfl (map_at _ _ _ (by omega))) ?_ | refine RW.q 7 rfl rfl (by kernel_rfl) Sub.any (Qt.load (by kernel_rfl) rfl (flat_cell0 _ _ _ (by intros; rfl) _ (by omega) (by rfl))) ?_ | refine RW.q 7 rfl rfl (by kernel_rfl) Sub.any (Qt.load (by kernel_rfl) rfl (flat_cell _ _ _ (by intros; rfl) _ _ (by omega) (by rfl))) ?_ | refine RW.q 7 rfl rfl (by kernel_rfl) Sub.any (Qt.load (by kernel_rfl) rfl (bytes_at _ _ (by omega))) ?_
    refine RW.q 8 rfl rfl (by kernel_rfl) Sub.any (Qt.fieldAddr (off := 3) (by kernel_rfl) rfl) ?_
    first | refine RW.q 9 rfl rfl (by kernel_rfl) Sub.any (Qt.load (by kernel_rfl) rfl rfl) ?_ | refine RW.q 9 rfl rfl (by kernel_rfl) Sub.any (Qt.load (by kernel_rfl) rfl (map_at _ _ _ (by omega))) ?_ | refine RW.q 9 rfl rfl (by kernel_rfl) Sub.any (Qt.load (by kernel_rfl) rfl (flat_cell0 _ _ _ (by intros; rfl) _ (by omega) (by rfl))) ?_ | refine RW.q 9 rfl rfl (by kernel_rfl) Sub.any (Qt.load (by kernel_rfl) rfl (flat_cell _ _ _ (by intros; rfl) _ _ (by omega) (by rfl))) ?_ | refine RW.q 9 rfl rfl (by kernel_rfl) Sub.any (Qt.load (by kernel_rfl) rfl (bytes_at _ _ (by omega))) ?_
    refine RW.one 10 (by kernel_rfl) ?_
    refine RO.eS rfl rfl (Ef.call (Bp.put_any B [] g b 8 4 8 s1.hand gl s1.A o.page hE1.inv.F.len (by omega) da o.data.length dc o.data o.mark rfl (hdv.rd [])) Tryd.func16 rfl rfl rfl ?_)
    rintro _ _ ⟨rfl, rfl⟩
    try simp only [List.cons_append, List.nil_append]
    rw [hc]
    refine ⟨Sub.any, ?_⟩
    refine RW.q 11 rfl rfl (by kernel_rfl) Sub.any (Qt.eql rfl rfl) ?_
    refine RW.done (by rfl) ?_
    simp only [List.drop_succ_cons, List.drop_zero, List.drop_nil]
    refine LW.done ?_
    refine T.condP rfl (fun hc0 => ?_) (fun hc0 => ?_)
    ·
     refine T.region ?_
     refine LW.q rfl (Qt.move rfl) ?_
     refine LW.q rfl (Qt.fieldAddr (off := 1) (by kernel_rfl) rfl) ?_
     first | refine LW.q rfl (Qt.load (by kernel_rfl) rfl rfl) ?_ | refine LW.q rfl (Qt.load (by kernel_rfl) rfl (map_at _ _ _ (by omega))) ?_ | refine LW.q rfl (Qt.load (by kernel_rfl) rfl (flat_cell0 _ _ _ (by intros; rfl) _ (by omega) (by rfl))) ?_ | refine LW.q rfl (Qt.load (by kernel_rfl) rfl (flat_cell _ _ _ (by intros; rfl) _ _ (by omega) (by rfl))) ?_ | refine LW.q rfl (Qt.load (by kernel_rfl) rfl (bytes_at _ _ (by omega))) ?_
     refine LW.q rfl (Qt.fieldAddr (off := 2) (by kernel_rfl) rfl) ?_
     first | refine LW.q rfl (Qt.load (by kernel_rfl) rfl rfl) ?_ | refine LW.q rfl (Qt.load (by kernel_rfl) rfl (map_at _ _ _ (by omega))) ?_ | refine LW.q rfl (Qt.load (by kernel_rfl) rfl (flat_cell0 _ _ _ (by intros; rfl) _ (by omega) (by rfl))) ?_ | refine LW.q rfl (Qt.load (by kernel_rfl) rfl (flat_cell _ _ _ (by intros; rfl) _ _ (by omega) (by rfl))) ?_ | refine LW.q rfl (Qt.load (by kernel_rfl) rfl (bytes_at _ _ (by omega))) ?_
     refine LW.q rfl (Qt.str o.data (by kernel_rfl) (by kernel_rfl) rfl (hdv.rd _).str) ?_
     refine LW.e0 rfl (Ef.mapUpdate Bk.mok rfl o.page rfl o.data rfl ?_)
     refine LW.done ?_
     refine T.seq ?_
     refine T.region ?_
     refine LW.q rfl (Qt.move rfl) ?_
     refine LW.q rfl (Qt.nilCheck rfl) ?_
     refine LW.q rfl (Qt.fieldAddr0 (by kernel_rfl) rfl) ?_
     first | refine LW.q rfl (Qt.load (by kernel_rfl) rfl rfl) ?_ | refine LW.q rfl (Qt.load (by kernel_rfl) rfl (map_at _ _ _ (by omega))) ?_ | refine LW.q rfl (Qt.load (by kernel_rfl) rfl (flat_cell0 _ _ _ (by intros; rfl) _ (by omega) (by rfl))) ?_ | refine LW.q rfl (Qt.load (by kernel_rfl) rfl (flat_cell _ _ _ (by intros; rfl) _ _ (by omega) (by rfl))) ?_ | refine LW.q rfl (Qt.load (by kernel_rfl) rfl (bytes_at _ _ (by omega))) ?_
     refine LW.e rfl (Ef.call (Dk.pendingF B b s1.D) Tryd.func18 rfl rfl rfl ?_)
     rintro _ _ ⟨rfl, rfl⟩
     try simp only [List.cons_append, List.nil_append]
     refine LW.q rfl (Qt.neq rfl rfl) ?_
     refine LW.done ?_
     first | refine T.condF rfl ?_ | refine T.condPF rfl ((by rw [hd1]; simp)) ?_ | refine T.condBF rfl ((by rw [hd1]; simp)) ?_
     rw [if_pos hc0] at hE2
     refine T.skip ?_
     refine T.region ?_
     refine LW.q rfl (Qt.add rfl rfl (wr64 (by omega) (by omega))) ?_
     refine LW.q rfl (Qt.move rfl) ?_
     refine LW.done ?_
     refine ⟨_, ?_, _, ⟨_, k + 1, { s1 with A := (putA s1.A o.page o.data o.mark).1 }, putL L o.page o.data, ⟨by omega, hE2⟩, rfl, (updS rfl (updS rfl (updS rfl (updS rfl (updS rfl rfl))))), rfl⟩, Sub.any⟩
     first | omega | (simp; omega)
    ·
     refine T.skip ?_
     refine T.seq ?_
     refine T.region ?_
     refine LW.q rfl (Qt.move rfl) ?_
     refine LW.q rfl (Qt.nilCheck rfl) ?_
     refine LW.q rfl (Qt.fieldAddr0 (by kernel_rfl) rfl) ?_
     first | refine LW.q rfl (Qt.load (by kernel_rfl) rfl rfl) ?_ | refine LW.q rfl (Qt.load (by kernel_rfl) rfl (map_at _ _ _ (by omega))) ?_ | refine LW.q rfl (Qt.load (by kernel_rfl) rfl (flat_cell0 _ _ _ (by intros; rfl) _ (by omega) (by rfl))) ?_ | refine LW.q rfl (Qt.load (by kernel_rfl) rfl (flat_cell _ _ _ (by intros; rfl) _ _ (by omega) (by rfl))) ?_ | refine LW.q rfl (Qt.load (by kernel_rfl) rfl (bytes_at _ _ (by omega))) ?_
     refine LW.e rfl (Ef.call (Dk.pendingF B b s1.D) Tryd.func18 rfl rfl rfl ?_)
     rintro _ _ ⟨rfl, rfl⟩
     try simp only [List.cons_append, List.nil_append]
     refine LW.q rfl (Qt.neq rfl rfl) ?_
     refine LW.done ?_
     first | refine T.condF rfl ?_ | refine T.condPF rfl ((by rw [hd1]; simp)) ?_ | refine T.condBF rfl ((by rw [hd1]; simp)) ?_
     rw [if_neg hc0] at hE2
     refine T.skip ?_
     refine T.region ?_
     refine LW.q rfl (Qt.add rfl rfl (wr64 (by omega) (by omega))) ?_
     refine LW.q rfl (Qt.move rfl) ?_
     refine LW.done ?_
     refine ⟨_, ?_, _, ⟨_, k + 1, { s1 with A := (putA s1.A o.page o.data o.mark).1 }, L, ⟨by omega, hE2⟩, rfl, (updS rfl (updS rfl (updS rfl (updS rfl (updS rfl rfl))))), rfl⟩, Sub.any⟩
     first | omega | (simp; omega)
  ·
   have hd := hE.disk
   have hbl : ∀ q, q < 12 → blankD.read q = List.replicate 256 0 := fun q hq => DD.new_read hq
   have hlb : blankD.secs.length = 12 := List.length_replicate ..
   have hpe0 := hE.inv.pend
   clear hlt
   refine T.exit ?_
   refine T.seq ?_
   refine T.seq ?_
   refine T.region ?_
   refine LW.q rfl (Qt.assign rfl) ?_
   refine LW.done ?_
   refine T.block ?_
   refine T.loop (fun mz fz lz => ∃ (f0 : Fr) (j : Nat), (j ≤ 8) ∧ mz = 8 - j ∧ fz = (upd (upd (upd f0 3 (.pointer (some ⟨gb, 0, none⟩))) 4 (.map (some gm))) 7 (.int .i64 j)) ∧ lz = benchB gb b gl g :: plA g b 8 4 8 s.hand gl s.A :: wlA gl b s.W :: dskA b s.D :: mpA kI strW gm L :: F) ?_ ?_
   · refine ⟨_, _, ⟨_, 0, Nat.zero_le _, rfl, (updS rfl (updS rfl (updS rfl rfl))), rfl⟩, Sub.any⟩
   ·
    rintro mz fz lz ⟨f0, j, hj, hmz, rfl, rfl⟩
    subst mz
    try simp only [List.cons_append, List.nil_append]
    refine T.seq ?_
    refine T.seq ?_
    refine T.region ?_
    refine LW.q rfl (Qt.move rfl) ?_
    refine LW.q rfl (Qt.lss rfl rfl) ?_
    refine LW.done ?_
    refine T.condP rfl (fun hlt => ?_) (fun hlt => ?_)
    ·
     refine T.skip ?_
     refine T.seq ?_
     refine T.block ?_
     refine T.seq ?_
     refine T.region ?_
     refine LW.q rfl (Qt.move rfl) ?_
     refine LW.q rfl (Qt.nilCheck rfl) ?_
     refine LW.q rfl (Qt.fieldAddr0 (by kernel_rfl) rfl) ?_
     first | refine LW.q rfl (Qt.load (by kernel_rfl) rfl rfl) ?_ | refine LW.q rfl (Qt.load (by kernel_rfl) rfl (map_at _ _ _ (by omega))) ?_ | refine LW.q rfl (Qt.load (by kernel_rfl) rfl (flat_cell0 _ _ _ (by intros; rfl) _ (by omega) (by rfl))) ?_ | refine LW.q rfl (Qt.load (by kernel_rfl) rfl (flat_cell _ _ _ (by intros; rfl) _ _ (by omega) (by rfl))) ?_ | refine LW.q rfl (Qt.load (by kernel_rfl) rfl (bytes_at _ _ (by omega))) ?_
     refine LW.q rfl (Qt.move rfl) ?_
     refine LW.q rfl (Qt.add rfl rfl (wr64 (by omega) (by omega))) ?_
     refine LW.e rfl (Ef.call (Dk.readF B b s.D (4 + j) _ (by omega) (by rw [hd, hlb]; omega) (by omega)) Tryd.func19 rfl rfl rfl ?_)
     rintro _ _ ⟨g7, c7, rfl, rfl⟩
     try simp only [List.cons_append, List.nil_append]
     rw [show s.D.read (4 + j) = List.replicate 256 0 by rw [hd]; exact hbl _ (by omega)]
     refine LW.q rfl (Qt.move rfl) ?_
     refine LW.q rfl (Qt.extract rfl rfl) ?_
     refine LW.q rfl (Qt.extract rfl rfl) ?_
     refine LW.q rfl (Qt.assign rfl) ?_
     refine LW.q rfl (Qt.assign rfl) ?_
     refine LW.done ?_
     refine T.seq ?_
     refine T.drawAll 5 (by kernel_rfl) (Nat.le_of_ble_eq_true rfl) (by kernel_rfl) ?_
     refine RW.q 0 rfl rfl (by kernel_rfl) (Sub.refl _) (Qt.move rfl) ?_
     refine RW.q 1 rfl rfl (by kernel_rfl) (Sub.refl _) (Qt.str (List.replicate 256 0) (by kernel_rfl) (by kernel_rfl) rfl (fun _ ho => ho.reads_row (List.length_replicate ..))) ?_
     refine RW.one 2 (by kernel_rfl) ?_
     refine RO.e rfl rfl (Ef.call (Bf.full B 0 0 rfl) Tryd.func20 rfl rfl rfl ?_)
     rintro _ _ ⟨gz, rfl, rfl⟩
     try simp only [List.cons_append, List.nil_append]
     refine ⟨Sub.any, ?_⟩
     refine RW.q 3 rfl rfl (by kernel_rfl) (Sub.refl _) (Qt.str (List.replicate 256 0) (by kernel_rfl) (by kernel_rfl) rfl (fun _ ho => ho.reads_row (List.length_replicate ..))) ?_
     refine RW.q 4 rfl rfl (by kernel_rfl) (Sub.refl _) (Qt.neqS rfl rfl) ?_
     refine RW.done (by rfl) ?_
     simp only [List.drop_succ_cons, List.drop_zero, List.drop_nil]
     refine LW.done ?_
     first | refine T.condF rfl ?_ | refine T.condPF rfl ((by simp)) ?_ | refine T.condBF rfl ((by simp)) ?_
     refine T.skip ?_
     refine T.region ?_
     refine LW.q rfl (Qt.move rfl) ?_
     refine LW.q rfl (Qt.add rfl rfl (wr64 (by omega) (by omega))) ?_
     refine LW.q rfl (Qt.assign rfl) ?_
     refine LW.done ?_
     refine ⟨_, ?_, _, ⟨_, j + 1, by omega, rfl, (updS rfl (updS rfl (updS rfl rfl))), rfl⟩, Sub.any⟩
     first | omega | (simp; omega)
    ·
     have hw := hE.inv.w (by omega)
     have hl12 : s.D.secs.length = 12 := by rw [hd, hlb]
     obtain ⟨D', hD'⟩ : ∃ D', (writesP (forceP s.W s.D (dirtyMark s.A)).2 (dirtyL 4 s.A)).sync = D' := ⟨_, rfl⟩
     have hread : ∀ (j : Nat) (hj : j < 8), D'.read (4 + j) = (lookL L j).getD z256 := fun j hj => by rw [← hD']; exact flush_has hE.inv (by omega) (by rw [hE.log]; exact Nat.le_refl _) hE.coh (by omega) (hE.has j hj)
     have hpe : D'.pend = [] := by rw [← hD']; rfl
     have hlen : D'.secs.length = 12 := by have := step_len hE.inv (by omega) ⟨4, 0, [], 0⟩; rw [← hD', ← hl12]; exact this
     have h256 : ∀ (j : Nat) (hj : j < 8), ((lookL L j).getD z256).length = 256 := fun j hj => by rw [← hread j hj, ← hD']; exact (hE.inv.flush (by omega)).ok.rd _ (by rw [show (flushP 4 s).D = D' from hD', hlen]; omega)
     refine T.exit ?_
     refine T.seq ?_
     refine T.region ?_
     refine LW.q rfl (Qt.move rfl) ?_
     refine LW.q rfl (Qt.nilCheck rfl) ?_
     refine LW.q rfl (Qt.fieldAddr (off := 2) (by kernel_rfl) rfl) ?_
     first | refine LW.q rfl (Qt.load (by kernel_rfl) rfl rfl) ?_ | refine LW.q rfl (Qt.load (by kernel_rfl) rfl (map_at _ _ _ (by omega))) ?_ | refine LW.q rfl (Qt.load (by kernel_rfl) rfl (flat_cell0 _ _ _ (by intros; rfl) _ (by omega) (by rfl))) ?_ | refine LW.q rfl (Qt.load (by kernel_rfl) rfl (flat_cell _ _ _ (by intros; rfl) _ _ (by omega) (by rfl))) ?_ | refine LW.q rfl (Qt.load (by kernel_rfl) rfl (bytes_at _ _ (by omega))) ?_
     refine LW.e rfl (Ef.call (Bp.flush B g b 8 4 8 s.hand gl s.A s.W s.D hE.inv.F hE.inv.dp hw hE.inv.ok (by omega)) Tryd.func21 rfl rfl rfl ?_)
     rintro _ _ ⟨rfl, rfl⟩
     try simp only [List.cons_append, List.nil_append]
     rw [hD']
     refine LW.done ?_
     refine T.seq ?_
     refine T.seq ?_
     refine T.region ?_
     refine LW.q rfl (Qt.assign rfl) ?_
     refine LW.done ?_
     refine T.block ?_
     clear hlt hj
     refine T.loop (fun mz fz lz => ∃ (f0 : Fr) (j : Nat), (j ≤ 8) ∧ mz = 8 - j ∧ fz = (upd (upd (upd f0 3 (.pointer (some ⟨gb, 0, none⟩))) 4 (.map (some gm))) 10 (.int .i64 j)) ∧ lz = benchB gb b gl g :: dskA b D' :: mpA kI strW gm L :: F) ?_ ?_
     · refine ⟨_, _, ⟨_, 0, Nat.zero_le _, rfl, (updS rfl (updS rfl (updS rfl rfl))), rfl⟩, Sub.any⟩
     ·
      rintro mz fz lz ⟨f0, j, hj, hmz, rfl, rfl⟩
      subst mz
      try simp only [List.cons_append, List.nil_append]
      refine T.seq ?_
      refine T.seq ?_
      refine T.region ?_
      refine LW.q rfl (Qt.move rfl) ?_
      refine LW.q rfl (Qt.lss rfl rfl) ?_
      refine LW.done ?_
      refine T.condP rfl (fun hlt => ?_) (fun hlt => ?_)
      ·
       have hrj := hread j (by omega)
       have h2j := h256 j (by omega)
       by_cases hex : ∃ d, lookL L (j : Int) = some d
       ·
        obtain ⟨d, hex⟩ := hex
        rw [hex] at hrj h2j
        simp only [Option.getD_some] at hrj h2j
        refine T.skip ?_
        refine T.seq ?_
        refine T.block ?_
        refine T.seq ?_
        refine T.region ?_
        refine LW.q rfl (Qt.move rfl) ?_
        refine LW.q rfl (Qt.move rfl) ?_
        refine LW.q rfl (Qt.look2S Bk.mok rfl (j : Int) rfl hex) ?_
        refine LW.q rfl (Qt.move rfl) ?_
        refine LW.q rfl (Qt.extract rfl rfl) ?_
        refine LW.q rfl (Qt.extract rfl rfl) ?_
        refine LW.q rfl (Qt.assign rfl) ?_
        refine LW.q rfl (Qt.assign rfl) ?_
        refine LW.done ?_
        refine T.seq ?_
        refine T.seq ?_
        refine T.region ?_
        refine LW.q rfl (Qt.move rfl) ?_
        first | refine LW.q rfl (Qt.notP rfl) ?_ | refine LW.q rfl (Qt.notB rfl) ?_
        refine LW.done ?_
        first | refine T.condF rfl ?_ | refine T.condPF rfl (rfl) ?_ | refine T.condBF rfl (rfl) ?_
        refine T.skip ?_
        refine T.seq ?_
        refine T.region ?_
        refine LW.q rfl (Qt.move rfl) ?_
        refine LW.q rfl (Qt.nilCheck rfl) ?_
        refine LW.q rfl (Qt.fieldAddr0 (by kernel_rfl) rfl) ?_
        first | refine LW.q rfl (Qt.load (by kernel_rfl) rfl rfl) ?_ | refine LW.q rfl (Qt.load (by kernel_rfl) rfl (map_at _ _ _ (by omega))) ?_ | refine LW.q rfl (Qt.load (by kernel_rfl) rfl (flat_cell0 _ _ _ (by intros; rfl) _ (by omega) (by rfl))) ?_ | refine LW.q rfl (Qt.load (by kernel_rfl) rfl (flat_cell _ _ _ (by intros; rfl) _ _ (by omega) (by rfl))) ?_ | refine LW.q rfl (Qt.load (by kernel_rfl) rfl (bytes_at _ _ (by omega))) ?_
        refine LW.q rfl (Qt.move rfl) ?_
        refine LW.q rfl (Qt.add rfl rfl (wr64 (by omega) (by omega))) ?_
        refine LW.e rfl (Ef.call (Dk.readF B b D' (4 + j) _ (by omega) (by omega) (by rw [hpe]; simp)) Tryd.func19 rfl rfl rfl ?_)
        rintro _ _ ⟨g7, c7, rfl, rfl⟩
        try simp only [List.cons_append, List.nil_append]
        rw [hrj]
        refine LW.q rfl (Qt.move rfl) ?_
        refine LW.q rfl (Qt.extract rfl rfl) ?_
        refine LW.q rfl (Qt.extract rfl rfl) ?_
        refine LW.q rfl (Qt.assign rfl) ?_
        refine LW.q rfl (Qt.assign rfl) ?_
        refine LW.done ?_
        refine T.seq ?_
        refine T.region ?_
        refine LW.q rfl (Qt.move rfl) ?_
        refine LW.q rfl (Qt.str d (by kernel_rfl) (by kernel_rfl) rfl (fun _ ho => ho.reads_row h2j)) ?_
        refine LW.q rfl (Qt.move rfl) ?_
        refine LW.q rfl (Qt.neqS rfl rfl) ?_
        refine LW.done ?_
        first | refine T.condF rfl ?_ | refine T.condPF rfl ((by simp)) ?_ | refine T.condBF rfl ((by simp)) ?_
        refine T.skip ?_
        refine T.region ?_
        refine LW.q rfl (Qt.move rfl) ?_
        refine LW.q rfl (Qt.add rfl rfl (wr64 (by omega) (by omega))) ?_
        refine LW.q rfl (Qt.assign rfl) ?_
        refine LW.done ?_
        refine ⟨_, ?_, _, ⟨_, j + 1, by omega, rfl, (updS rfl (updS rfl (updS rfl rfl))), rfl⟩, Sub.any⟩
        first | omega | (simp; omega)
       ·
        have hex : lookL L (j : Int) = none := by
         cases h : lookL L (j : Int) with
         | none => rfl
         | some d => exact absurd ⟨d, h⟩ hex
        rw [hex] at hrj h2j
        simp only [Option.getD_none] at hrj h2j
        refine T.skip ?_
        refine T.seq ?_
        refine T.block ?_
        refine T.seq ?_
        refine T.region ?_
        refine LW.q rfl (Qt.move rfl) ?_
        refine LW.q rfl (Qt.move rfl) ?_
        refine LW.q rfl (Qt.look2N Bk.mok rfl (j : Int) rfl hex) ?_
        refine LW.q rfl (Qt.move rfl) ?_
        refine LW.q rfl (Qt.extract rfl rfl) ?_
        refine LW.q rfl (Qt.extract rfl rfl) ?_
        refine LW.q rfl (Qt.assign rfl) ?_
        refine LW.q rfl (Qt.assign rfl) ?_
        refine LW.done ?_
        refine T.seq ?_
        refine T.seq ?_
        refine T.region ?_
        refine LW.q rfl (Qt.move rfl) ?_
        first | refine LW.q rfl (Qt.notP rfl) ?_ | refine LW.q rfl (Qt.notB rfl) ?_
        refine LW.done ?_
        first | refine T.condT rfl ?_ | refine T.condPT rfl (rfl) ?_ | refine T.condBT rfl (rfl) ?_
        refine T.region ?_
        refine LW.e rfl (Ef.call (Bf.full B 0 0 rfl) Tryd.func20 rfl rfl rfl ?_)
        rintro _ _ ⟨gz, rfl, rfl⟩
        try simp only [List.cons_append, List.nil_append]
        refine LW.q rfl (Qt.str (List.replicate 256 0) (by kernel_rfl) (by kernel_rfl) rfl (fun _ ho => ho.reads_row (List.length_replicate ..))) ?_
        refine LW.q rfl (Qt.assign rfl) ?_
        refine LW.done ?_
        refine T.seq ?_
        refine T.region ?_
        refine LW.q rfl (Qt.move rfl) ?_
        refine LW.q rfl (Qt.nilCheck rfl) ?_
        refine LW.q rfl (Qt.fieldAddr0 (by kernel_rfl) rfl) ?_
        first | refine LW.q rfl (Qt.load (by kernel_rfl) rfl rfl) ?_ | refine LW.q rfl (Qt.load (by kernel_rfl) rfl (map_at _ _ _ (by omega))) ?_ | refine LW.q rfl (Qt.load (by kernel_rfl) rfl (flat_cell0 _ _ _ (by intros; rfl) _ (by omega) (by rfl))) ?_ | refine LW.q rfl (Qt.load (by kernel_rfl) rfl (flat_cell _ _ _ (by intros; rfl) _ _ (by omega) (by rfl))) ?_ | refine LW.q rfl (Qt.load (by kernel_rfl) rfl (bytes_at _ _ (by omega))) ?_
        refine LW.q rfl (Qt.move rfl) ?_
        refine LW.q rfl (Qt.add rfl rfl (wr64 (by omega) (by omega))) ?_
        refine LW.e rfl (Ef.call (Dk.readF B b D' (4 + j) _ (by omega) (by omega) (by rw [hpe]; simp)) Tryd.func19 rfl rfl rfl ?_)
        rintro _ _ ⟨g7, c7, rfl, rfl⟩
        try simp only [List.cons_append, List.nil_append]
        rw [hrj]
        refine LW.q rfl (Qt.move rfl) ?_
        refine LW.q rfl (Qt.extract rfl rfl) ?_
        refine LW.q rfl (Qt.extract rfl rfl) ?_
        refine LW.q rfl (Qt.assign rfl) ?_
        refine LW.q rfl (Qt.assign rfl) ?_
        refine LW.done ?_
        refine T.seq ?_
        refine T.region ?_
        refine LW.q rfl (Qt.move rfl) ?_
        refine LW.q rfl (Qt.str z256 (by kernel_rfl) (by kernel_rfl) rfl (fun _ ho => ho.reads_row h2j)) ?_
        refine LW.q rfl (Qt.move rfl) ?_
        refine LW.q rfl (Qt.neqS rfl rfl) ?_
        refine LW.done ?_
        first | refine T.condF rfl ?_ | refine T.condPF rfl ((by simp)) ?_ | refine T.condBF rfl ((by simp)) ?_
        refine T.skip ?_
        refine T.region ?_
        refine LW.q rfl (Qt.move rfl) ?_
        refine LW.q rfl (Qt.add rfl rfl (wr64 (by omega) (by omega))) ?_
        refine LW.q rfl (Qt.assign rfl) ?_
        refine LW.done ?_
        refine ⟨_, ?_, _, ⟨_, j + 1, by omega, rfl, (updS rfl (updS rfl (updS rfl rfl))), rfl⟩, Sub.any⟩
        first | omega | (simp; omega)
      ·
       refine T.exit ?_
       refine T.seq ?_
       refine T.region ?_
       refine LW.q rfl (Qt.move rfl) ?_
       refine LW.q rfl (Qt.nilCheck rfl) ?_
       refine LW.q rfl (Qt.fieldAddr0 (by kernel_rfl) rfl) ?_
       first | refine LW.q rfl (Qt.load (by kernel_rfl) rfl rfl) ?_ | refine LW.q rfl (Qt.load (by kernel_rfl) rfl (map_at _ _ _ (by omega))) ?_ | refine LW.q rfl (Qt.load (by kernel_rfl) rfl (flat_cell0 _ _ _ (by intros; rfl) _ (by omega) (by rfl))) ?_ | refine LW.q rfl (Qt.load (by kernel_rfl) rfl (flat_cell _ _ _ (by intros; rfl) _ _ (by omega) (by rfl))) ?_ | refine LW.q rfl (Qt.load (by kernel_rfl) rfl (bytes_at _ _ (by omega))) ?_
       refine LW.e rfl (Ef.call (Dk.pendingF B b D') Tryd.func18 rfl rfl rfl ?_)
       rintro _ _ ⟨rfl, rfl⟩
       try simp only [List.cons_append, List.nil_append]
       refine LW.q rfl (Qt.eql rfl rfl) ?_
       refine LW.q rfl (Qt.assign rfl) ?_
       refine LW.done ?_
       refine T.ret ?_
       exact ⟨.inl rfl, _, _, res [_] rfl ⟨rvT rfl, trivial⟩, ⟨by rw [hpe]; rfl, rfl⟩, Sub.any⟩
end Go.Proofs.YtegohgaccmkigaaDoor

/- The law BufferEnough of annalslaw06 holds (its card): for all arguments of bulk at most 1048576 the call returns true and the arguments read as before. Condition: the bound of the second form. -/
set_option linter.unusedSimpArgs false
set_option linter.unusedVariables false
namespace Go.Proofs.YtegohgaccmkigaaDoor.bufferEnough
open Go.ChangeShapes Go.WideShapes Go.ChangeAt Go.RowKit
theorem bulk_one {H : Type} (a : DataW H) : Rows.uptoBulkAll [a] = Rows.uptoBulk a := by simp [Rows.uptoBulkAll]
set_option maxRecDepth 100000 in
theorem contract (H : Type) (enc : TypeId × Value → H) (W : World) (base : Nat) (args : Array Value) (ds gs : List (DataW H)) (before : List MemPlace)
    (hval : ∀ (j : Nat) t v, Tryd.f5.params[j]? = some t → args[j]? = some v → Value.okWide Tryd.prog W .any base t v)
    (hW : DataW.Whole enc Tryd.prog Tryd.f5.params.toList Rows.bufferEnoughSpec.vars false W args.toList ds gs before) (hk : Rows.uptoSmall H (ds ++ gs) = true) :
    Calls Tryd.prog 5 args W fun e W' => ∃ v, e = .returned v ∧ Rows.bufferEnoughSpec.post enc Tryd.prog Tryd.f5 false true false false W args v W' := by
  have hW0 := hW
  obtain ⟨p, q, hA0, hV, rfl, hfz, hnd⟩ := hW
  have hA : DataW.TrodAll enc Tryd.prog W 0 (fun _ => true) true Tryd.f5.params.toList args.toList ds p := hA0
  rw [Tryd.params5] at hA hval
  obtain ⟨v0, d0, rfl, rfl, h0⟩ := trodAll_one hA
  obtain ⟨rfl, rfl⟩ := trodVars_none hV
  have hbulk := Tryd.upto_bound hk
  rw [List.append_nil] at hbulk
  clear hA0 hV hk
  obtain ⟨sa0, sl0, sc0, rfl⟩ := okWide_slice Tryd.underlying52 (hval 0 52 v0 rfl rfl)
  obtain ⟨fu0, t0⟩ := h0
  obtain ⟨sv0, l0, hc0, hs0, hB0, hL0⟩ := open_slice_R (enc := enc) (P := Tryd.prog) (W := W) (R := OpOR W) (B := fun o => o.data.length + 1) Tryd.underlying52 (show Tryd.prog.cellsOf 55 = 4 by kernel_rfl) (by omega) (fun n cs y => read_opO n cs y) t0
  simp only [Value.cells, List.cons.injEq, and_true] at hc0
  subst hc0
  dsimp only at hB0 hL0
  rw [bulk_one] at hbulk
  have hok0 := hs0.okO

  refine (Fn.law (Bp.enough _ _ l0 hs0.roLO (by omega) (fun x hx => by have := opO_le hx; have := hok0 x hx; omega))).mono fun e W' ⟨he, hg⟩ => ?_
  subst he
  exact ⟨_, rfl, post_law Tryd.laidOut hW0 rfl rfl 4 Tryd.underlying4 (by kernel_rfl) (by rw [Tryd.params5]; decide +kernel) hg.toBelow⟩

theorem reads (os : Os) {H : Type} (enc : TypeId × Value → H) : ∃ places, DataW.whole enc Tryd.prog ((laidWorld os).forCall (fun _ _ => 0) ⟨#[], #[.slice none 0 0], []⟩).memory Tryd.f5.params.toList Rows.bufferEnoughSpec.vars false (#[.slice none 0 0] : Array Value).toList 8 = some ([.nil], [], places) :=
  ⟨[], by kernel_rfl⟩

set_option maxRecDepth 100000 in
theorem lifted (os : Os) (started : os.Started) (H : Type) (enc : TypeId × Value → H) (F : Stop.Interp) :
    ReturnsInHanded {} Tryd.checked os 5 .any ((Rows.OpenSpec.upto Rows.bufferEnoughSpec).preRow enc Tryd.prog Tryd.f5 Rows.bufferEnoughUptoRow.domain false Rows.bufferEnoughUptoRow.laid) (((Rows.OpenSpec.upto Rows.bufferEnoughSpec).at F).post enc Tryd.prog Tryd.f5 false true false false) := by
  obtain ⟨places, hx⟩ := reads os enc
  refine returnsInHanded_of_row (C := Tryd.checked) (s := Rows.OpenSpec.upto Rows.bufferEnoughSpec) Tryd.own started (by kernel_rfl) Tryd.func5
    (witness_row_at (enc := enc) (C := Tryd.checked) false (laidWorld os) #[.slice none 0 0] rfl (by kernel_rfl) (by kernel_rfl) (by kernel_rfl)
      (OpenSpec.preRow_of_cond 8 hx (by kernel_rfl) (fun k hk => by cases hk; kernel_rfl) (by kernel_rfl) (laid_met os _))) ?_
  intro W base args ds gs before hval hW _ hcond _ _ _ _
  exact contract H enc W base args ds gs before hval hW (hcond _ rfl)

theorem over : Rows.bufferEnoughUptoRow.holds Tryd.pinned (Rows.OpenSpec.upto Rows.bufferEnoughSpec) :=
  OpenClaim.holds_of_cond 5 Tryd.f5 rfl rfl rfl rfl rfl rfl rfl ⟨rfl, rfl, rfl, rfl, rfl⟩ rfl rfl rfl rfl rfl (by kernel_rfl) Tryd.func5 (by kernel_rfl)
    (of_decide_eq_true (by kernel_rfl)) (by unfold Func.isWrapper; first | (rw [if_pos (by decide +kernel)]; kernel_rfl) | (rw [if_neg (by decide +kernel)]; exact ⟨rfl, rfl⟩))
    (fun os started H enc _ F => by rw [OpenClaim.pre_eq_preRow]; exact lifted os started H enc F)

theorem plain (f : FuncId) (fn : Func) (hf : Tryd.pinned.checked.prog.funcNamed "annals/annalslaw06.BufferEnough" = some f) (hfn : Tryd.pinned.checked.prog.funcs[f]? = some fn) :
    false = Tryd.pinned.checked.prog.looks [] ∧ ∀ (j : Nat) t, fn.params[j]? = some t → Tryd.pinned.checked.prog.wantsStandIn t = false := by
  obtain rfl : f = 5 := Option.some.inj ((show Tryd.prog.funcNamed "annals/annalslaw06.BufferEnough" = some 5 by kernel_rfl).symm.trans hf) |>.symm
  obtain rfl : fn = Tryd.f5 := (Option.some.inj (Tryd.func5.symm.trans hfn)).symm
  refine ⟨by kernel_rfl, fun j t ht => ?_⟩
  rw [Tryd.params5] at ht
  have hall : ([52] : List TypeId).all (fun t => !Tryd.prog.wantsStandIn t) = true := by kernel_rfl
  have := List.all_eq_true.1 hall t (by simpa using Array.mem_of_getElem? ht)
  exact (show Tryd.prog.wantsStandIn t = false by simpa using this)

theorem proved : Rows.BufferEnoughUptoCardSaid :=
  Claim7.holds_tied_plain_at .later [] _ _ _ _ over (fun _ h => by cases h) (by kernel_rfl) (fun _ h => by cases h) bufferEnoughUpto_row_tie rfl ⟨rfl, rfl⟩ (by kernel_rfl) rfl plain (by kernel_rfl)
end Go.Proofs.YtegohgaccmkigaaDoor.bufferEnough
