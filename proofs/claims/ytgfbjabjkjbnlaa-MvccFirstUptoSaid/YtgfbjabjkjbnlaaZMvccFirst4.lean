/- The texts SfA SfI SiA MvC MvD SlW MvE MvF MvRd MwA MwB MwC, one behind the other: what the law leans on. Conditions: as each theorem says. -/
import Derived.Test.YtgfbjabjkjbnlaaZMvccFirst3
import Derived.Shelf.SlSortCmp.NoneTotal
import Derived.Shelf.SlLaysNS
import Derived.Test.YtgfbjabjkjbnlaaProg
import Derived.Shelf.SortG.Plain
import Derived.Shelf.SortG.SortNone
/- slices.SortFunc over rows of the separation logic: what the kit's contract says, in its words. Conditions: sizes; the comparison is a strict weak order and only reads. -/
set_option linter.unusedSimpArgs false
set_option linter.unusedVariables false
namespace Go.Proofs.Ytgfbjabjkjbnlaa
open Go.RowKit Go.Shelf Go.Lib Go.Sort

section
variable {P : Program} {B : Base} {α : Type} [Inhabited α]
theorem sort_block (enc : α → Value) (w : World) (g m : Nat) (d : Array α) (os : Array Obj) {cur : Array Value} {e : TypeId} {fr : Nat × Nat} (h : w.heap[g]? = some (.cells cur e fr)) : (sortWorld enc w g 0 m d os).heap[g]? = some (.cells (putCells enc 0 d cur) e fr) := by
  have hg : g < w.heap.size := lt_of_block h
  unfold sortWorld
  rw [heap_grow_old _ _ (by rw [size_putRow]; exact hg)]
  show (Array.modify w.heap g (onCells (putCells enc 0 d)))[g]? = _
  rw [Array.getElem?_modify, if_pos rfl, h]
  rfl
theorem sort_kept (enc : α → Value) (w : World) (g m : Nat) (d : Array α) (os : Array Obj) : Kept [g] w (sortWorld enc w g 0 m d os) := by
  refine ⟨rfl, rfl, rfl, ?_, fun k hk hn => ?_⟩
  · unfold sortWorld
    rw [size_grow, size_putRow]
    exact Nat.le_add_right _ _
  · unfold sortWorld
    rw [heap_grow_old _ _ (by rw [size_putRow]; exact hk)]
    show (Array.modify w.heap g (onCells (putCells enc 0 d)))[k]? = _
    rw [Array.getElem?_modify, if_neg (fun e => hn (by simp [e]))]
theorem put_take (enc : α → Value) (d : Array α) (cur : Array Value) (h : d.size ≤ cur.size) : (putCells enc 0 d cur).toList.take (d.size * 1) = d.toList.map enc := by
  apply List.ext_getElem
  · simp [putCells]; omega
  · intro i h1 h2
    have hi : i < d.size := by simpa using h2
    simp [putCells, hi, getElem!_pos]
theorem Own.sorted {w : World} {g m cap k : Nat} {e : TypeId} {ds : List α} {enc : α → Value} {l : List Assn} (H : Own B w (row (.slice (some ⟨g, 0, none⟩) m cap) e 1 m (ds.map enc) :: l)) (d' : Array α) (hd : d'.size = m) (os : Array Obj) : Own B (sortWorld enc w g 0 k d' os) (row (.slice (some ⟨g, 0, none⟩) m cap) e 1 m (d'.toList.map enc) :: l) := by
  obtain ⟨e1, e2⟩ := H.row_owns
  rcases e2 with ⟨e2, _⟩ | ⟨g', cap', cur, e2, _, e3, e4, e5, e6, e7⟩
  · cases e2
  · injection e2 with e2 _ e8
    injection e2 with e2
    injection e2 with e2
    subst e2; subst e8
    refine H.row_kept (by simpa [Value.ownBlock] using sort_kept enc w g k d' os) ⟨by simp [hd], .inr ⟨g, cap, _, rfl, Nat.zero_le _, sort_block enc w g k d' os e3, e4, e5, by simp [putCells, e6], ?_⟩⟩ (fun g2 hg => .inl hg)
    rw [← hd]
    exact put_take enc d' cur (by omega)
end
end Go.Proofs.Ytgfbjabjkjbnlaa

/-
  DERIVED: THE SHELF's CONTRACTS AT THIS DUMP, IN PLAIN WORDS (tools/lay-plain.mjs out of 'YtgfbjabjkjbnlaaSfI.lean', which tools/lay-shelf.mjs wrote): THE SAME DECLARATIONS UNDER THE SAME NAMES: 'import', 'namespace', 'open', 'def', 'theorem' AND NOTHING ELSE: no command of the shelf's: FOR A HAND-IN. Each laying: the table of numbers ('.._ren') and one theorem, a field a fact of the dump's own or the kernel's comparison; each contract: ONE APPLICATION.
-/
namespace Go.Proofs
open Go.Shelf
def Try.sortI_ren : Go.Shelf.Ren := ⟨fun | 53 => 22 | 64 => 32 | 63 => 31 | 78 => 44 | 79 => 45 | 70 => 35 | 71 => 36 | 72 => 37 | 73 => 38 | 74 => 39 | 75 => 40 | 59 => 41 | 76 => 42 | 77 => 43 | 88 => 46 | 89 => 47 | 90 => 48 | 91 => 49 | 92 => 50 | 68 => 51 | 96 => 52 | n => n, fun | 22 => 26 | 23 => 2 | 3 => 3 | 51 => 80 | 0 => 0 | 67 => 94 | 69 => 96 | 4 => 4 | 61 => 86 | 60 => 85 | 44 => 91 | 5 => 5 | 9 => 9 | 75 => 97 | 79 => 101 | 83 => 104 | 84 => 105 | n => n, fun | n => n⟩
theorem Try.sortI : Go.Proofs.SlLaysN.n53 Try.prog Try.sortI_ren := {
  mixed := by kernel_rfl
  f53 := ⟨Try.f22.name, by decide, Try.func22.trans (congrArg some (by kernel_rfl))⟩
  f59 := ⟨Try.f41.name, by decide, Try.func41.trans (congrArg some (by kernel_rfl))⟩
  f63 := ⟨Try.f31.name, by decide, Try.func31.trans (congrArg some (by kernel_rfl))⟩
  f64 := Try.func32.trans (congrArg some (by kernel_rfl))
  f68 := ⟨Try.f51.name, by decide, Try.func51.trans (congrArg some (by kernel_rfl))⟩
  f70 := ⟨Try.f35.name, by decide, Try.func35.trans (congrArg some (by kernel_rfl))⟩
  f71 := ⟨Try.f36.name, by decide, Try.func36.trans (congrArg some (by kernel_rfl))⟩
  f72 := ⟨Try.f37.name, by decide, Try.func37.trans (congrArg some (by kernel_rfl))⟩
  f73 := ⟨Try.f38.name, by decide, Try.func38.trans (congrArg some (by kernel_rfl))⟩
  f74 := ⟨Try.f39.name, by decide, Try.func39.trans (congrArg some (by kernel_rfl))⟩
  f75 := ⟨Try.f40.name, by decide, Try.func40.trans (congrArg some (by kernel_rfl))⟩
  f76 := ⟨Try.f42.name, by decide, Try.func42.trans (congrArg some (by kernel_rfl))⟩
  f77 := ⟨Try.f43.name, by decide, Try.func43.trans (congrArg some (by kernel_rfl))⟩
  f78 := Try.func44.trans (congrArg some (by kernel_rfl))
  f79 := Try.func45.trans (congrArg some (by kernel_rfl))
  f88 := ⟨Try.f46.name, by decide, Try.func46.trans (congrArg some (by kernel_rfl))⟩
  f89 := Try.func47.trans (congrArg some (by kernel_rfl))
  f90 := Try.func48.trans (congrArg some (by kernel_rfl))
  f91 := ⟨Try.f49.name, by decide, Try.func49.trans (congrArg some (by kernel_rfl))⟩
  f92 := ⟨Try.f50.name, by decide, Try.func50.trans (congrArg some (by kernel_rfl))⟩
  f96 := ⟨Try.f52.name, by decide, Try.func52.trans (congrArg some (by kernel_rfl))⟩
  t0 := Try.underlying0
  a0 := Try.isAgg0
  z0 := Try.sizeOf0
  v0 := Try.zeroValue0
  t3 := Try.underlying3
  a3 := Try.isAgg3
  z3 := Try.sizeOf3
  v3 := Try.zeroValue3
  t4 := Try.underlying4
  a4 := Try.isAgg4
  z4 := Try.sizeOf4
  v4 := Try.zeroValue4
  t5 := Try.underlying5
  a5 := Try.isAgg5
  z5 := Try.sizeOf5
  v5 := Try.zeroValue5
  t9 := Try.underlying9
  a9 := Try.isAgg9
  z9 := Try.sizeOf9
  v9 := Try.zeroValue9
  t22 := Try.underlying26
  a22 := Try.isAgg26
  z22 := Try.sizeOf26
  v22 := Try.zeroValue26
  t23 := Try.underlying2
  a23 := Try.isAgg2
  z23 := Try.sizeOf2
  v23 := Try.zeroValue2
  t44 := Try.underlying91
  a44 := Try.isAgg91
  z44 := Try.sizeOf91
  v44 := Try.zeroValue91
  t51 := Try.underlying80
  a51 := Try.isAgg80
  z51 := Try.sizeOf80
  v51 := Try.zeroValue80
  t60 := Try.underlying85
  a60 := Try.isAgg85
  z60 := Try.sizeOf85
  v60 := Try.zeroValue85
  t61 := Try.underlying86
  a61 := Try.isAgg86
  z61 := Try.sizeOf86
  v61 := Try.zeroValue86
  t67 := Try.underlying94
  a67 := Try.isAgg94
  z67 := Try.sizeOf94
  v67 := Try.zeroValue94
  t69 := Try.underlying96
  a69 := Try.isAgg96
  z69 := Try.sizeOf96
  v69 := Try.zeroValue96
  t75 := Try.underlying97
  a75 := Try.isAgg97
  z75 := Try.sizeOf97
  v75 := Try.zeroValue97
  t79 := Try.underlying101
  a79 := Try.isAgg101
  z79 := Try.sizeOf101
  v79 := Try.zeroValue101
  t83 := Try.underlying104
  a83 := Try.isAgg104
  z83 := Try.sizeOf104
  v83 := Try.zeroValue104
  t84 := Try.underlying105
  a84 := Try.isAgg105
  z84 := Try.sizeOf105
  v84 := Try.zeroValue105 }
end Go.Proofs

/- slices.Sort of numbers over rows of the separation logic: what the kit's contract says, in its words. Conditions: sizes. -/
set_option linter.unusedSimpArgs false
set_option linter.unusedVariables false
namespace Go.Proofs.Ytgfbjabjkjbnlaa
open Go.RowKit Go.Shelf Go.Lib Go.Sort

abbrev sortZ (zs : List Int) : List Int := zs.mergeSort fun x y => decide (x ≤ y)
theorem Fn.sortI {P : Program} {B : Base} {ρ : Ren} (L : SlLaysN.n53 P ρ) (v : Value) (e : TypeId) (m : Nat) (zs : List Int) (hm : zs.length = m) (hb : m < 2 ^ 61) (S : List Assn) (f : Nat) (hf : ρ.f 53 = f) :
    Fn P B f #[v] (row v e 1 m (zs.map (Value.int .i64)) :: S) (fun u l => u = .tuple #[] ∧ l = row v e 1 m ((sortZ zs).map (Value.int .i64)) :: S) := ⟨fun w F ho => by
  subst hf
  obtain ⟨p, cap, rfl, hp, hl⟩ := Own.row_slice ho
  rcases Nat.eq_zero_or_pos m with h0 | h0
  · subst h0
    obtain rfl : zs = [] := List.eq_nil_of_length_eq_zero hm
    refine (AnyG.slices_Sort_int_none L p cap w).mono ?_
    rintro _ w' ⟨rfl, rfl⟩
    exact ⟨_, _, rfl, ⟨rfl, by simp [sortZ]⟩, ho⟩
  · obtain ⟨g, rfl⟩ := hp h0
    have hsz : zs.toArray.size = m := by simpa using hm
    obtain ⟨e1, e2⟩ := ho.row_owns
    rcases e2 with ⟨e2, _⟩ | ⟨g', cap', cur, e2, _, e3, e4, e5, e6, e7⟩
    · cases e2
    · injection e2 with e2 _ e8
      injection e2 with e2
      injection e2 with e2
      subst e2
      have hH : Holds (Value.int .i64) w g 0 zs.toArray := fun j hj => by
        have hlj : j < zs.length := by simpa using hj
        have hc : cur[j]? = some (.int .i64 zs[j]) := by
          rw [← Array.getElem?_toList]
          have : (cur.toList.take (m * 1))[j]? = (zs.map (Value.int .i64))[j]? := by rw [e7]
          rw [List.getElem?_take, if_pos (by omega)] at this
          rw [this]
          simp [hlj]
        constructor
        · unfold World.cell?
          rw [e3]
          simp [hc, hlj, getElem!_pos]
        · unfold World.frozen?
          rw [e3]
          simp
      have hblk : g < w.heap.size := lt_of_block e3
      have h := AnyG.slices_Sort_int L g 0 cap zs w hH hblk (by omega)
      rw [hm] at h
      refine h.mono ?_
      rintro _ w' ⟨rfl, k, os, rfl⟩
      have hso := ho.sorted (k := k) (sortZ zs).toArray (by simp [sortZ, hm]) os
      exact ⟨_, _, rfl, ⟨rfl, rfl⟩, hso⟩⟩
/-- What is in order stays; another order of it comes back to it. -/
theorem sortZ_perm {l m : List Int} (hp : l.Perm m) (hm : m.Pairwise (· ≤ ·)) : sortZ l = m := by
  have h1 : (sortZ l).Pairwise (fun a b => decide (a ≤ b) = true) := List.pairwise_mergeSort (by intro a b c h1 h2; simp at h1 h2 ⊢; omega) (by intro a b; simp; omega) l
  have h2 : (sortZ l).Perm m := (List.mergeSort_perm l _).trans hp
  have key : ∀ (a b : List Int), a.Perm b → a.Pairwise (· ≤ ·) → b.Pairwise (· ≤ ·) → a = b := by
    intro a
    induction a with
    | nil => intro b hp _ _; exact (List.nil_perm.1 hp).symm ▸ rfl
    | cons x a ih =>
      intro b hp ha hb
      cases b with
      | nil => exact absurd hp.symm (by simp)
      | cons y b =>
        have hxy : x = y := by
          have h1 : x ∈ y :: b := hp.subset (List.mem_cons_self ..)
          have h2 : y ∈ x :: a := hp.symm.subset (List.mem_cons_self ..)
          rcases List.mem_cons.1 h1 with h1 | h1
          · exact h1
          · rcases List.mem_cons.1 h2 with h2 | h2
            · exact h2.symm
            · have := (List.pairwise_cons.1 ha).1 y h2
              have := (List.pairwise_cons.1 hb).1 x h1
              omega
        subst hxy
        rw [ih b (hp.cons_inv) (List.pairwise_cons.1 ha).2 (List.pairwise_cons.1 hb).2]
  exact key _ _ h2 (h1.imp fun h => by simpa using h) hm
end Go.Proofs.Ytgfbjabjkjbnlaa

/- The package mvcc: Check, Commit, Active. Conditions: sizes. -/
set_option linter.unusedSimpArgs false
set_option linter.unusedVariables false
namespace Go.Proofs.Ytgfbjabjkjbnlaa
open Go.RowKit

def checkM (m : Mg) (t : Int) : Int × Int := match findT m.T t with
  | none => (0, 70)
  | some (_, x) => if x.ks = [] then (x.snap, 0) else if clashB m.W x.snap x.ks = true then (0, 120) else if 1099511627775 < max m.now (m.last + 1) then (0, 3) else (max m.now (m.last + 1), 0)
theorem Mv.check (B : Base) (g : Nat) (m : Mg) (t : Int) (hl : 0 ≤ m.last ∧ m.last ≤ 1099511627776) (hn : 0 ≤ m.now ∧ m.now ≤ 1099511627776) : Fn Try.prog B 23 #[.pointer (some ⟨g, 0, none⟩), .int .i64 t] (mgC g m) (fun u l => u = .tuple #[.int .i64 (checkM m t).1, .int .i64 (checkM m t).2] ∧ l = mgC g m) := by
  simp only [mgC]
  by_cases hf : findT m.T t = none
  · have hl := (findT_none hf).1
    have he : checkM m t = (0, 70) := by unfold checkM; rw [hf]
    rw [he]
    refine Fn.enter2 57 Try.func23 rfl rfl (Nat.le_of_ble_eq_true rfl) (fun F => ?_)
    try simp only [List.cons_append, List.nil_append]
    refine T.seq ?_
    refine T.region ?_
    refine LW.q rfl (Qt.assign rfl) ?_
    refine LW.q rfl (Qt.assign rfl) ?_
    refine LW.done ?_
    refine T.seq ?_
    refine T.region ?_
    refine LW.q rfl (Qt.move rfl) ?_
    refine LW.q rfl (Qt.nilCheck rfl) ?_
    refine LW.q rfl (Qt.fieldAddr (off := 2) (by kernel_rfl) rfl) ?_
    first | refine LW.q rfl (Qt.load (by kernel_rfl) rfl rfl) ?_ | refine LW.q rfl (Qt.load (by kernel_rfl) rfl (map_at _ _ _ (by omega))) ?_ | refine LW.q rfl (Qt.load (by kernel_rfl) rfl (flat_cell0 _ _ _ (by intros; rfl) _ (by omega) (by rfl))) ?_ | refine LW.q rfl (Qt.load (by kernel_rfl) rfl (flat_cell _ _ _ (by intros; rfl) _ _ (by omega) (by rfl))) ?_ | refine LW.q rfl (Qt.load (by kernel_rfl) rfl (bytes_at _ _ (by omega))) ?_
    refine LW.q rfl (Qt.move rfl) ?_
    refine LW.q rfl (Qt.look2N Mv.okA rfl t rfl hl) ?_
    refine LW.q rfl (Qt.move rfl) ?_
    refine LW.q rfl (Qt.extr rfl rfl) ?_
    refine LW.q rfl (Qt.extr rfl rfl) ?_
    refine LW.e rfl (Ef.alloc [.int .i64 0, .map none] (by unfold zeroB; kernel_rfl) ?_)
    intro g6
    refine LW.e0 rfl (Ef.store [_, _] (by kernel_rfl) rfl rfl rfl rfl (by simp) ?_)
    try simp only [splice, List.length_cons, List.length_nil, List.drop_succ_cons, List.cons_append, List.take_succ_cons, List.take_zero, List.drop_zero, List.nil_append, List.append_nil]
    refine LW.q rfl (Qt.assign rfl) ?_
    refine LW.done ?_
    refine T.seq ?_
    refine T.block ?_
    refine T.seq ?_
    refine T.region ?_
    refine LW.q rfl (Qt.move rfl) ?_
    first | refine LW.q rfl (Qt.notP rfl) ?_ | refine LW.q rfl (Qt.notB rfl) ?_
    refine LW.q rfl (Qt.assign rfl) ?_
    refine LW.done ?_
    first | refine T.condT rfl ?_ | refine T.condPT rfl (rfl) ?_ | refine T.condBT rfl (rfl) ?_
    refine T.seq ?_
    refine T.region ?_
    refine LW.q rfl (Qt.assign rfl) ?_
    refine LW.q rfl (Qt.assign rfl) ?_
    refine LW.done ?_
    refine T.ret ?_
    exact ⟨.inl rfl, _, _, res [_, _] rfl ⟨rvT rfl, rvT rfl, trivial⟩, ⟨rfl, rfl⟩, Sub.any⟩
  · obtain ⟨⟨i, x⟩, hx⟩ := Option.ne_none_iff_exists'.1 hf
    obtain ⟨hx1, hx2, hlk⟩ := findT_some hx
    refine Fn.enter2 57 Try.func23 rfl rfl (Nat.le_of_ble_eq_true rfl) (fun F => ?_)
    try simp only [List.cons_append, List.nil_append]
    refine T.seq ?_
    refine T.region ?_
    refine LW.q rfl (Qt.assign rfl) ?_
    refine LW.q rfl (Qt.assign rfl) ?_
    refine LW.done ?_
    refine T.seq ?_
    refine T.region ?_
    refine LW.q rfl (Qt.move rfl) ?_
    refine LW.q rfl (Qt.nilCheck rfl) ?_
    refine LW.q rfl (Qt.fieldAddr (off := 2) (by kernel_rfl) rfl) ?_
    first | refine LW.q rfl (Qt.load (by kernel_rfl) rfl rfl) ?_ | refine LW.q rfl (Qt.load (by kernel_rfl) rfl (map_at _ _ _ (by omega))) ?_ | refine LW.q rfl (Qt.load (by kernel_rfl) rfl (flat_cell0 _ _ _ (by intros; rfl) _ (by omega) (by rfl))) ?_ | refine LW.q rfl (Qt.load (by kernel_rfl) rfl (flat_cell _ _ _ (by intros; rfl) _ _ (by omega) (by rfl))) ?_ | refine LW.q rfl (Qt.load (by kernel_rfl) rfl (bytes_at _ _ (by omega))) ?_
    refine LW.q rfl (Qt.move rfl) ?_
    refine LW.q rfl (Qt.look2S Mv.okA rfl t rfl hlk) ?_
    refine LW.q rfl (Qt.move rfl) ?_
    refine LW.q rfl (Qt.extr rfl rfl) ?_
    refine LW.q rfl (Qt.extr rfl rfl) ?_
    refine LW.e rfl (Ef.alloc [.int .i64 0, .map none] (by unfold zeroB; kernel_rfl) ?_)
    intro g6
    refine LW.e0 rfl (Ef.store [_, _] (by kernel_rfl) rfl rfl rfl rfl (by simp) ?_)
    try simp only [splice, List.length_cons, List.length_nil, List.drop_succ_cons, List.cons_append, List.take_succ_cons, List.take_zero, List.drop_zero, List.nil_append, List.append_nil]
    refine LW.q rfl (Qt.assign rfl) ?_
    refine LW.done ?_
    refine T.seq ?_
    refine T.block ?_
    refine T.seq ?_
    refine T.region ?_
    refine LW.q rfl (Qt.move rfl) ?_
    first | refine LW.q rfl (Qt.notP rfl) ?_ | refine LW.q rfl (Qt.notB rfl) ?_
    refine LW.q rfl (Qt.assign rfl) ?_
    refine LW.done ?_
    first | refine T.condF rfl ?_ | refine T.condPF rfl (rfl) ?_ | refine T.condBF rfl (rfl) ?_
    refine T.conv (fun w ho => Own.ks_take hx1 ho) ?_
    refine T.seq ?_
    refine T.region ?_
    refine LW.q rfl (Qt.fieldAddr (off := 1) (by kernel_rfl) rfl) ?_
    first | refine LW.q rfl (Qt.load (by kernel_rfl) rfl rfl) ?_ | refine LW.q rfl (Qt.load (by kernel_rfl) rfl (map_at _ _ _ (by omega))) ?_ | refine LW.q rfl (Qt.load (by kernel_rfl) rfl (flat_cell0 _ _ _ (by intros; rfl) _ (by omega) (by rfl))) ?_ | refine LW.q rfl (Qt.load (by kernel_rfl) rfl (flat_cell _ _ _ (by intros; rfl) _ _ (by omega) (by rfl))) ?_ | refine LW.q rfl (Qt.load (by kernel_rfl) rfl (bytes_at _ _ (by omega))) ?_
    refine LW.q rfl (Qt.lenMap Try.underlying62 rfl) ?_
    refine LW.q rfl (Qt.eql rfl rfl) ?_
    refine LW.q rfl (Qt.assign rfl) ?_
    refine LW.done ?_
    refine T.condP rfl (fun h0 => ?_) (fun h0 => ?_)
    · skip
      have h00 : x.ks = [] := List.eq_nil_of_length_eq_zero (by omega)
      have he : checkM m t = (x.snap, 0) := by unfold checkM; rw [hx]; dsimp only; rw [if_pos h00]
      refine T.conv (fun w ho => Own.ks_back hx1 ho) ?_
      refine T.seq ?_
      refine T.region ?_
      refine LW.q rfl (Qt.fieldAddr0 (by kernel_rfl) rfl) ?_
      first | refine LW.q rfl (Qt.load (by kernel_rfl) rfl rfl) ?_ | refine LW.q rfl (Qt.load (by kernel_rfl) rfl (map_at _ _ _ (by omega))) ?_ | refine LW.q rfl (Qt.load (by kernel_rfl) rfl (flat_cell0 _ _ _ (by intros; rfl) _ (by omega) (by rfl))) ?_ | refine LW.q rfl (Qt.load (by kernel_rfl) rfl (flat_cell _ _ _ (by intros; rfl) _ _ (by omega) (by rfl))) ?_ | refine LW.q rfl (Qt.load (by kernel_rfl) rfl (bytes_at _ _ (by omega))) ?_
      refine LW.q rfl (Qt.assign rfl) ?_
      refine LW.q rfl (Qt.assign rfl) ?_
      refine LW.done ?_
      refine T.ret ?_
      exact ⟨.inl rfl, _, _, res [_, _] rfl ⟨rvT rfl, rvT rfl, trivial⟩, ⟨by rw [he]; rfl, rfl⟩, Sub.any⟩
    · skip
      have h00 : x.ks ≠ [] := fun e => h0 (by rw [e]; rfl)
      refine T.conv (fun w ho => Own.ks_back hx1 ho) ?_
      refine T.seq ?_
      refine T.region ?_
      refine LW.q rfl (Qt.move rfl) ?_
      refine LW.q rfl (Qt.loadAgg [_, _] (by kernel_rfl) rfl ⟨rfl, rfl, trivial⟩) ?_
      refine LW.e rfl (Ef.call (Mv.clash B g m i x hx1) Try.func33 rfl rfl rfl ?_)
      rintro _ _ ⟨rfl, rfl⟩
      try simp only [List.cons_append, List.nil_append]
      refine LW.q rfl (Qt.assign rfl) ?_
      refine LW.done ?_
      refine T.cond rfl (fun hc => ?_) (fun hc => ?_)
      · skip
        have he : checkM m t = (0, 120) := by unfold checkM; rw [hx]; dsimp only; rw [if_neg h00, if_pos hc]
        refine T.seq ?_
        refine T.region ?_
        refine LW.q rfl (Qt.assign rfl) ?_
        refine LW.q rfl (Qt.assign rfl) ?_
        refine LW.done ?_
        refine T.ret ?_
        exact ⟨.inl rfl, _, _, res [_, _] rfl ⟨rvT rfl, rvT rfl, trivial⟩, ⟨by rw [he]; rfl, rfl⟩, Sub.any⟩
      · skip
        have hc' : ¬ clashB m.W x.snap x.ks = true := by rw [hc]; simp
        refine T.seq ?_
        refine T.drawAll 14 (by kernel_rfl) (Nat.le_of_ble_eq_true rfl) (by kernel_rfl) ?_
        refine RW.q 0 rfl rfl (by kernel_rfl) (Sub.refl _) (Qt.move rfl) ?_
        refine RW.q 1 rfl rfl (by kernel_rfl) (Sub.refl _) (Qt.nilCheck rfl) ?_
        refine RW.q 2 rfl rfl (by kernel_rfl) (Sub.refl _) (Qt.fieldAddr0 (by kernel_rfl) rfl) ?_
        refine RW.q 3 rfl rfl (by kernel_rfl) (Sub.refl _) (Qt.fieldAddr0 (by kernel_rfl) rfl) ?_
        first | refine RW.q 4 rfl rfl (by kernel_rfl) (Sub.refl _) (Qt.load (by kernel_rfl) rfl rfl) ?_ | refine RW.q 4 rfl rfl (by kernel_rfl) (Sub.refl _) (Qt.load (by kernel_rfl) rfl (map_at _ _ _ (by omega))) ?_ | refine RW.q 4 rfl rfl (by kernel_rfl) (Sub.refl _) (Qt.load (by kernel_rfl) rfl (flat_cell0 _ _ _ (by intros; rfl) _ (by omega) (by rfl))) ?_ | refine RW.q 4 rfl rfl (by kernel_rfl) (Sub.refl _) (Qt.load (by kernel_rfl) rfl (flat_cell _ _ _ (by intros; rfl) _ _ (by omega) (by rfl))) ?_ | refine RW.q 4 rfl rfl (by kernel_rfl) (Sub.refl _) (Qt.load (by kernel_rfl) rfl (bytes_at _ _ (by omega))) ?_
        refine RW.q 5 rfl rfl (by kernel_rfl) (Sub.refl _) (Qt.move rfl) ?_
        refine RW.q 6 rfl rfl (by kernel_rfl) (Sub.refl _) (Qt.nilCheck rfl) ?_
        refine RW.q 7 rfl rfl (by kernel_rfl) (Sub.refl _) (Qt.fieldAddr0 (by kernel_rfl) rfl) ?_
        refine RW.q 8 rfl rfl (by kernel_rfl) (Sub.refl _) (Qt.fieldAddr (off := 1) (by kernel_rfl) rfl) ?_
        first | refine RW.q 9 rfl rfl (by kernel_rfl) (Sub.refl _) (Qt.load (by kernel_rfl) rfl rfl) ?_ | refine RW.q 9 rfl rfl (by kernel_rfl) (Sub.refl _) (Qt.load (by kernel_rfl) rfl (map_at _ _ _ (by omega))) ?_ | refine RW.q 9 rfl rfl (by kernel_rfl) (Sub.refl _) (Qt.load (by kernel_rfl) rfl (flat_cell0 _ _ _ (by intros; rfl) _ (by omega) (by rfl))) ?_ | refine RW.q 9 rfl rfl (by kernel_rfl) (Sub.refl _) (Qt.load (by kernel_rfl) rfl (flat_cell _ _ _ (by intros; rfl) _ _ (by omega) (by rfl))) ?_ | refine RW.q 9 rfl rfl (by kernel_rfl) (Sub.refl _) (Qt.load (by kernel_rfl) rfl (bytes_at _ _ (by omega))) ?_
        refine RW.q 10 rfl rfl (by kernel_rfl) (Sub.refl _) (Qt.add rfl rfl (wr64 (by omega) (by omega))) ?_
        refine RW.q 11 rfl rfl (by kernel_rfl) (Sub.refl _) (Qt.max rfl rfl) ?_
        refine RW.q 12 rfl rfl (by kernel_rfl) (Sub.refl _) (Qt.gtr rfl rfl) ?_
        refine RW.q 13 rfl rfl (by kernel_rfl) (Sub.refl _) (Qt.assign rfl) ?_
        refine RW.done (by rfl) ?_
        simp only [List.drop_succ_cons, List.drop_zero, List.drop_nil]
        refine LW.done ?_
        refine T.condP rfl (fun hfull => ?_) (fun hfull => ?_)
        · skip
          have he : checkM m t = (0, 3) := by unfold checkM; rw [hx]; dsimp only; rw [if_neg h00, if_neg hc', if_pos hfull]
          refine T.seq ?_
          refine T.region ?_
          refine LW.q rfl (Qt.assign rfl) ?_
          refine LW.q rfl (Qt.assign rfl) ?_
          refine LW.done ?_
          refine T.ret ?_
          exact ⟨.inl rfl, _, _, res [_, _] rfl ⟨rvT rfl, rvT rfl, trivial⟩, ⟨by rw [he]; rfl, rfl⟩, Sub.any⟩
        · skip
          have he : checkM m t = (max m.now (m.last + 1), 0) := by unfold checkM; rw [hx]; dsimp only; rw [if_neg h00, if_neg hc', if_neg hfull]
          refine T.skip ?_
          refine T.seq ?_
          refine T.drawAll 12 (by kernel_rfl) (Nat.le_of_ble_eq_true rfl) (by kernel_rfl) ?_
          refine RW.q 0 rfl rfl (by kernel_rfl) (Sub.refl _) (Qt.move rfl) ?_
          refine RW.q 1 rfl rfl (by kernel_rfl) (Sub.refl _) (Qt.nilCheck rfl) ?_
          refine RW.q 2 rfl rfl (by kernel_rfl) (Sub.refl _) (Qt.fieldAddr0 (by kernel_rfl) rfl) ?_
          refine RW.q 3 rfl rfl (by kernel_rfl) (Sub.refl _) (Qt.fieldAddr0 (by kernel_rfl) rfl) ?_
          first | refine RW.q 4 rfl rfl (by kernel_rfl) (Sub.refl _) (Qt.load (by kernel_rfl) rfl rfl) ?_ | refine RW.q 4 rfl rfl (by kernel_rfl) (Sub.refl _) (Qt.load (by kernel_rfl) rfl (map_at _ _ _ (by omega))) ?_ | refine RW.q 4 rfl rfl (by kernel_rfl) (Sub.refl _) (Qt.load (by kernel_rfl) rfl (flat_cell0 _ _ _ (by intros; rfl) _ (by omega) (by rfl))) ?_ | refine RW.q 4 rfl rfl (by kernel_rfl) (Sub.refl _) (Qt.load (by kernel_rfl) rfl (flat_cell _ _ _ (by intros; rfl) _ _ (by omega) (by rfl))) ?_ | refine RW.q 4 rfl rfl (by kernel_rfl) (Sub.refl _) (Qt.load (by kernel_rfl) rfl (bytes_at _ _ (by omega))) ?_
          refine RW.q 5 rfl rfl (by kernel_rfl) (Sub.refl _) (Qt.move rfl) ?_
          refine RW.q 6 rfl rfl (by kernel_rfl) (Sub.refl _) (Qt.nilCheck rfl) ?_
          refine RW.q 7 rfl rfl (by kernel_rfl) (Sub.refl _) (Qt.fieldAddr0 (by kernel_rfl) rfl) ?_
          refine RW.q 8 rfl rfl (by kernel_rfl) (Sub.refl _) (Qt.fieldAddr (off := 1) (by kernel_rfl) rfl) ?_
          first | refine RW.q 9 rfl rfl (by kernel_rfl) (Sub.refl _) (Qt.load (by kernel_rfl) rfl rfl) ?_ | refine RW.q 9 rfl rfl (by kernel_rfl) (Sub.refl _) (Qt.load (by kernel_rfl) rfl (map_at _ _ _ (by omega))) ?_ | refine RW.q 9 rfl rfl (by kernel_rfl) (Sub.refl _) (Qt.load (by kernel_rfl) rfl (flat_cell0 _ _ _ (by intros; rfl) _ (by omega) (by rfl))) ?_ | refine RW.q 9 rfl rfl (by kernel_rfl) (Sub.refl _) (Qt.load (by kernel_rfl) rfl (flat_cell _ _ _ (by intros; rfl) _ _ (by omega) (by rfl))) ?_ | refine RW.q 9 rfl rfl (by kernel_rfl) (Sub.refl _) (Qt.load (by kernel_rfl) rfl (bytes_at _ _ (by omega))) ?_
          refine RW.q 10 rfl rfl (by kernel_rfl) (Sub.refl _) (Qt.add rfl rfl (wr64 (by omega) (by omega))) ?_
          refine RW.q 11 rfl rfl (by kernel_rfl) (Sub.refl _) (Qt.max rfl rfl) ?_
          refine RW.done (by rfl) ?_
          simp only [List.drop_succ_cons, List.drop_zero, List.drop_nil]
          refine LW.q rfl (Qt.assign rfl) ?_
          refine LW.q rfl (Qt.assign rfl) ?_
          refine LW.done ?_
          refine T.ret ?_
          exact ⟨.inl rfl, _, _, res [_, _] rfl ⟨rvT rfl, rvT rfl, trivial⟩, ⟨by rw [he]; rfl, rfl⟩, Sub.any⟩

structure CommitOk (m : Mg) (t stamp : Int) (x : Tx) (m' : Mg) : Prop where
  ga : m'.ga = m.ga
  gw : m'.gw = m.gw
  now : m'.now = m.now
  begun : m'.begun = m.begun
  T : m'.T = dropT m.T t
  last : m'.last = if x.ks = [] then m.last else stamp
  W : ∀ k, (lookL m'.W k).getD 0 = if k ∈ x.ks.map (·.1) then stamp else (lookL m.W k).getD 0
/-- What Commit leaves. -/
def commitP (m : Mg) (t : Int) (m' : Mg) : Prop := ((checkM m t).2 = 120 → m' = { m with T := dropT m.T t }) ∧ ((checkM m t).2 = 0 → ∃ i x, findT m.T t = some (i, x) ∧ CommitOk m t (checkM m t).1 x m') ∧ ((checkM m t).2 ≠ 0 → (checkM m t).2 ≠ 120 → m' = m)
theorem if_cg {α : Type} {p q : Prop} [Decidable p] [Decidable q] (h : p ↔ q) (a b : α) : (if p then a else b) = if q then a else b := by
  by_cases e : p
  · rw [if_pos e, if_pos (h.1 e)]
  · rw [if_neg e, if_neg (fun k => e (h.2 k))]
theorem cut_mem {left : List (Str × Int)} {q k : Str} : k ∈ (cutL left q).map (·.1) ↔ k ∈ left.map (·.1) ∧ k ≠ q := by
  unfold cutL
  simp only [List.mem_map, List.mem_filter, decide_eq_true_eq]
  constructor
  · rintro ⟨p, ⟨h1, h2⟩, rfl⟩; exact ⟨⟨p, h1, rfl⟩, h2⟩
  · rintro ⟨⟨p, h1, rfl⟩, h2⟩; exact ⟨p, ⟨h1, h2⟩, rfl⟩
theorem commit_W {ks left W W' : List (Str × Int)} {q : Str} {c st : Int} (hsub : ∀ p ∈ left, p ∈ ks) (hq : (q, c) ∈ left) (hW : ∀ k, (lookL W' k).getD 0 = if k ∈ ks.map (·.1) ∧ k ∉ left.map (·.1) then st else (lookL W k).getD 0) :
    ∀ k, (lookL (putL W' q st) k).getD 0 = if k ∈ ks.map (·.1) ∧ k ∉ (cutL left q).map (·.1) then st else (lookL W k).getD 0 := fun k => by
  have hqk : q ∈ ks.map (·.1) := List.mem_map.2 ⟨_, hsub _ hq, rfl⟩
  by_cases e : q = k
  · subst e
    rw [look_put_same, if_pos ⟨hqk, fun h => (cut_mem.1 h).2 rfl⟩]; rfl
  · rw [look_put_ne _ e, hW k]
    by_cases h1 : k ∈ ks.map (·.1) ∧ k ∉ left.map (·.1)
    · rw [if_pos h1, if_pos ⟨h1.1, fun h => h1.2 (cut_mem.1 h).1⟩]
    · rw [if_neg h1, if_neg (fun h => h1 ⟨h.1, fun h2 => h.2 (cut_mem.2 ⟨h2, fun e2 => e e2.symm⟩)⟩)]
theorem commit_last {ks : List (Str × Int)} {l' last st : Int} (h1 : ([] : List (Str × Int)).length = ks.length → l' = last) (h2 : ([] : List (Str × Int)).length < ks.length → l' = st) : l' = if ks = [] then last else st := by
  by_cases e : ks = []
  · rw [if_pos e]; exact h1 (by rw [e])
  · rw [if_neg e]; exact h2 (List.length_pos_iff.2 e)
set_option maxHeartbeats 1000000 in
theorem Mv.commit (B : Base) (g : Nat) (m : Mg) (t : Int) (hl : 0 ≤ m.last ∧ m.last ≤ 1099511627776) (hn : 0 ≤ m.now ∧ m.now ≤ 1099511627776) : Fn Try.prog B 13 #[.pointer (some ⟨g, 0, none⟩), .int .i64 t] (mgC g m) (fun u l => ∃ m', commitP m t m' ∧ u = .tuple #[.int .i64 (checkM m t).1, .int .i64 (checkM m t).2] ∧ l = mgC g m') := by
 simp only [mgC]
 refine Fn.enter2 57 Try.func13 rfl rfl (Nat.le_of_ble_eq_true rfl) (fun F => ?_)
 try simp only [List.cons_append, List.nil_append]
 refine T.seq ?_
 refine T.region ?_
 refine LW.q rfl (Qt.assign rfl) ?_
 refine LW.q rfl (Qt.assign rfl) ?_
 refine LW.done ?_
 refine T.seq ?_
 refine T.region ?_
 refine LW.q rfl (Qt.move rfl) ?_
 refine LW.q rfl (Qt.move rfl) ?_
 refine LW.e rfl (Ef.call (Mv.check B g m t hl hn) Try.func23 rfl rfl rfl ?_)
 rintro _ _ ⟨rfl, rfl⟩
 try simp only [List.cons_append, List.nil_append]
 refine LW.q rfl (Qt.move rfl) ?_
 refine LW.q rfl (Qt.extr rfl rfl) ?_
 refine LW.q rfl (Qt.extr rfl rfl) ?_
 refine LW.q rfl (Qt.assign rfl) ?_
 refine LW.q rfl (Qt.assign rfl) ?_
 refine LW.done ?_
 refine T.seq ?_
 refine T.seq ?_
 refine T.region ?_
 refine LW.q rfl (Qt.move rfl) ?_
 refine LW.done ?_
 refine T.block ?_
 refine T.seq ?_
 refine T.region ?_
 refine LW.q rfl (Qt.eql rfl rfl) ?_
 refine LW.q rfl (Qt.assign rfl) ?_
 refine LW.done ?_
 obtain ⟨⟨st, cd⟩, hck⟩ : ∃ r, checkM m t = r := ⟨_, rfl⟩
 rw [hck]
 refine T.condP rfl (fun h120 => ?_) (fun h120 => ?_)
 ·
  refine T.region ?_
  refine LW.q rfl (Qt.move rfl) ?_
  refine LW.q rfl (Qt.nilCheck rfl) ?_
  refine LW.q rfl (Qt.fieldAddr (off := 2) (by kernel_rfl) rfl) ?_
  first | refine LW.q rfl (Qt.load (by kernel_rfl) rfl rfl) ?_ | refine LW.q rfl (Qt.load (by kernel_rfl) rfl (map_at _ _ _ (by omega))) ?_ | refine LW.q rfl (Qt.load (by kernel_rfl) rfl (flat_cell0 _ _ _ (by intros; rfl) _ (by omega) (by rfl))) ?_ | refine LW.q rfl (Qt.load (by kernel_rfl) rfl (flat_cell _ _ _ (by intros; rfl) _ _ (by omega) (by rfl))) ?_ | refine LW.q rfl (Qt.load (by kernel_rfl) rfl (bytes_at _ _ (by omega))) ?_
  refine LW.q rfl (Qt.move rfl) ?_
  refine LW.e0 rfl (Ef.delete Mv.okA rfl t rfl ?_)
  try simp only [List.cons_append, List.nil_append]
  rw [cut_drop]
  refine LW.conv (fun w ho => Own.ks_drop (T := m.T) t ho) ?_
  refine LW.done ?_
  refine T.seq ?_
  refine T.region ?_
  refine LW.q rfl (Qt.move rfl) ?_
  refine LW.q rfl (Qt.move rfl) ?_
  refine LW.q rfl (Qt.assign rfl) ?_
  refine LW.q rfl (Qt.assign rfl) ?_
  refine LW.done ?_
  refine T.ret ?_
  exact ⟨.inl rfl, _, _, res [_, _] rfl ⟨rvT rfl, rvT rfl, trivial⟩, ⟨{ m with T := dropT m.T t }, ⟨fun _ => rfl, fun h => by rw [hck] at h; dsimp only at h; omega, fun _ h => by rw [hck] at h; exact absurd h120 h⟩, rfl, rfl⟩, Sub.any⟩
 ·
  refine T.seq ?_
  refine T.region ?_
  refine LW.q rfl (Qt.eql rfl rfl) ?_
  refine LW.q rfl (Qt.assign rfl) ?_
  refine LW.done ?_
  refine T.condP rfl (fun h0 => ?_) (fun h0 => ?_)
  ·
   obtain ⟨i, x, hx⟩ : ∃ i x, findT m.T t = some (i, x) := by
    cases hf : findT m.T t with
    | none => unfold checkM at hck; rw [hf] at hck; simp at hck; omega
    | some r => exact ⟨r.1, r.2, rfl⟩
   obtain ⟨hx1, hx2, hlk⟩ := findT_some hx
   refine T.conv (fun w ho => Own.ks_take hx1 ho) ?_
   refine T.seq ?_
   refine T.region ?_
   refine LW.q rfl (Qt.move rfl) ?_
   refine LW.q rfl (Qt.nilCheck rfl) ?_
   refine LW.q rfl (Qt.fieldAddr (off := 2) (by kernel_rfl) rfl) ?_
   first | refine LW.q rfl (Qt.load (by kernel_rfl) rfl rfl) ?_ | refine LW.q rfl (Qt.load (by kernel_rfl) rfl (map_at _ _ _ (by omega))) ?_ | refine LW.q rfl (Qt.load (by kernel_rfl) rfl (flat_cell0 _ _ _ (by intros; rfl) _ (by omega) (by rfl))) ?_ | refine LW.q rfl (Qt.load (by kernel_rfl) rfl (flat_cell _ _ _ (by intros; rfl) _ _ (by omega) (by rfl))) ?_ | refine LW.q rfl (Qt.load (by kernel_rfl) rfl (bytes_at _ _ (by omega))) ?_
   refine LW.q rfl (Qt.move rfl) ?_
   refine LW.q rfl (Qt.look1S Mv.okA rfl t rfl hlk) ?_
   refine LW.e rfl (Ef.alloc [.int .i64 0, .map none] (by unfold zeroB; kernel_rfl) ?_)
   intro g8
   refine LW.e0 rfl (Ef.store [_, _] (by kernel_rfl) rfl rfl rfl rfl (by simp) ?_)
   try simp only [splice, List.length_cons, List.length_nil, List.drop_succ_cons, List.cons_append, List.take_succ_cons, List.take_zero, List.drop_zero, List.nil_append, List.append_nil]
   refine LW.done ?_
   refine T.seq ?_
   refine T.seq ?_
   refine T.region ?_
   refine LW.q rfl (Qt.fieldAddr (off := 1) (by kernel_rfl) rfl) ?_
   first | refine LW.q rfl (Qt.load (by kernel_rfl) rfl rfl) ?_ | refine LW.q rfl (Qt.load (by kernel_rfl) rfl (map_at _ _ _ (by omega))) ?_ | refine LW.q rfl (Qt.load (by kernel_rfl) rfl (flat_cell0 _ _ _ (by intros; rfl) _ (by omega) (by rfl))) ?_ | refine LW.q rfl (Qt.load (by kernel_rfl) rfl (flat_cell _ _ _ (by intros; rfl) _ _ (by omega) (by rfl))) ?_ | refine LW.q rfl (Qt.load (by kernel_rfl) rfl (bytes_at _ _ (by omega))) ?_
   refine LW.e rfl (Ef.range Try.underlying62 rfl ?_)
   rintro gi
   try simp only [List.cons_append, List.nil_append]
   refine LW.done ?_
   refine T.block ?_
   refine T.loop (fun mz fz lz => ∃ (f0 : Fr) (left : List (Str × Int)) (W' : List (Str × Int)) (l' : Int), ((∀ p ∈ left, p ∈ x.ks) ∧ (∀ k, (lookL W' k).getD 0 = if k ∈ x.ks.map (·.1) ∧ k ∉ left.map (·.1) then st else (lookL m.W k).getD 0) ∧ left.length ≤ x.ks.length ∧ (left.length = x.ks.length → l' = m.last) ∧ (left.length < x.ks.length → l' = st)) ∧ mz = left.length ∧ fz = (upd (upd (upd (upd (upd f0 0 (.pointer (some ⟨g, 0, none⟩))) 1 (.int .i64 t)) 6 (.int .i64 st)) 7 (.int .i64 cd)) 34 (.pointer (some ⟨gi, 0, none⟩))) ∧ lz = rgA kT kZ gi x.gk x.ks left :: ksA (m.T.eraseIdx i) :: mgB g { m with last := l' } :: actA m :: mpA kT kZ m.gw W' :: F) ?_ ?_
   · refine ⟨_, _, ⟨_, x.ks, m.W, m.last, ⟨fun _ h => h, fun k => by rw [if_neg (fun h => h.2 h.1)], Nat.le_refl _, fun _ => rfl, fun h => absurd h (Nat.lt_irrefl _)⟩, rfl, (updS rfl (updS rfl (updS rfl (updS rfl (updS rfl rfl))))), rfl⟩, Sub.any⟩
   ·
    rintro mz fz lz ⟨f0, left, W', l', ⟨hsub, hW, hle, hl1, hl2⟩, hmz, rfl, rfl⟩
    subst mz
    try simp only [List.cons_append, List.nil_append]
    by_cases hlf : left = []
    ·
     subst hlf
     refine T.seq ?_
     refine T.region ?_
     refine LW.e rfl (Ef.nextN rfl rfl ?_)
     try simp only [List.cons_append, List.nil_append]
     refine LW.conv (fun w ho => Own.ks_back hx1 ho) ?_
     refine LW.q rfl (Qt.extr rfl rfl) ?_
     refine LW.done ?_
     refine T.seq ?_
     first | refine T.condF rfl ?_ | refine T.condPF rfl (rfl) ?_ | refine T.condBF rfl (rfl) ?_
     refine T.exit ?_
     refine T.region ?_
     refine LW.q rfl (Qt.move rfl) ?_
     refine LW.q rfl (Qt.nilCheck rfl) ?_
     refine LW.q rfl (Qt.fieldAddr (off := 2) (by kernel_rfl) rfl) ?_
     first | refine LW.q rfl (Qt.load (by kernel_rfl) rfl rfl) ?_ | refine LW.q rfl (Qt.load (by kernel_rfl) rfl (map_at _ _ _ (by omega))) ?_ | refine LW.q rfl (Qt.load (by kernel_rfl) rfl (flat_cell0 _ _ _ (by intros; rfl) _ (by omega) (by rfl))) ?_ | refine LW.q rfl (Qt.load (by kernel_rfl) rfl (flat_cell _ _ _ (by intros; rfl) _ _ (by omega) (by rfl))) ?_ | refine LW.q rfl (Qt.load (by kernel_rfl) rfl (bytes_at _ _ (by omega))) ?_
     refine LW.q rfl (Qt.move rfl) ?_
     refine LW.e0 rfl (Ef.delete Mv.okA rfl t rfl ?_)
     try simp only [List.cons_append, List.nil_append]
     rw [cut_drop]
     refine LW.conv (fun w ho => Own.ks_drop (T := m.T) t ho) ?_
     refine LW.done ?_
     refine T.seq ?_
     refine T.region ?_
     refine LW.q rfl (Qt.move rfl) ?_
     refine LW.q rfl (Qt.move rfl) ?_
     refine LW.q rfl (Qt.assign rfl) ?_
     refine LW.q rfl (Qt.assign rfl) ?_
     refine LW.done ?_
     refine T.ret ?_
     exact ⟨.inl rfl, _, _, res [_, _] rfl ⟨rvT rfl, rvT rfl, trivial⟩, ⟨⟨m.ga, m.gw, m.now, l', m.begun, dropT m.T t, W'⟩, ⟨fun h => by rw [hck] at h; exact absurd h h120, fun _ => ⟨i, x, hx, ⟨rfl, rfl, rfl, rfl, rfl, by rw [hck]; exact commit_last hl1 hl2, fun k => by rw [hck]; dsimp only; rw [hW k]; exact if_cg ⟨fun h => h.1, fun h => ⟨h, List.not_mem_nil⟩⟩ _ _⟩⟩, fun h => by rw [hck] at h; exact absurd h0 h⟩, rfl, rfl⟩, Sub.any⟩
    ·
     refine T.seq ?_
     refine T.region ?_
     refine LW.e rfl (Ef.nextS (left := left) strV_inj rfl rfl hlf ?_)
     rintro ⟨q, cq⟩ hq
     try simp only [List.cons_append, List.nil_append]
     refine LW.q rfl (Qt.extr rfl rfl) ?_
     refine LW.done ?_
     refine T.seq ?_
     first | refine T.condT rfl ?_ | refine T.condPT rfl (rfl) ?_ | refine T.condBT rfl (rfl) ?_
     have hlen := cut_lt hq
     refine T.skip ?_
     refine T.block ?_
     refine T.seq ?_
     refine T.region ?_
     refine LW.q rfl (Qt.entry rfl) ?_
     refine LW.q rfl (Qt.extr rfl rfl) ?_
     refine LW.q rfl (Qt.assign rfl) ?_
     refine LW.done ?_
     refine T.seq ?_
     refine T.region ?_
     refine LW.q rfl (Qt.move rfl) ?_
     refine LW.q rfl (Qt.nilCheck rfl) ?_
     refine LW.q rfl (Qt.fieldAddr (off := 3) (by kernel_rfl) rfl) ?_
     first | refine LW.q rfl (Qt.load (by kernel_rfl) rfl rfl) ?_ | refine LW.q rfl (Qt.load (by kernel_rfl) rfl (map_at _ _ _ (by omega))) ?_ | refine LW.q rfl (Qt.load (by kernel_rfl) rfl (flat_cell0 _ _ _ (by intros; rfl) _ (by omega) (by rfl))) ?_ | refine LW.q rfl (Qt.load (by kernel_rfl) rfl (flat_cell _ _ _ (by intros; rfl) _ _ (by omega) (by rfl))) ?_ | refine LW.q rfl (Qt.load (by kernel_rfl) rfl (bytes_at _ _ (by omega))) ?_
     refine LW.q rfl (Qt.move rfl) ?_
     refine LW.q rfl (Qt.move rfl) ?_
     refine LW.e0 rfl (Ef.mapUpdate Mv.okW rfl q rfl st rfl ?_)
     refine LW.done ?_
     refine T.region ?_
     refine LW.q rfl (Qt.move rfl) ?_
     refine LW.q rfl (Qt.move rfl) ?_
     refine LW.q rfl (Qt.nilCheck rfl) ?_
     refine LW.q rfl (Qt.fieldAddr0 (by kernel_rfl) rfl) ?_
     refine LW.q rfl (Qt.fieldAddr (off := 1) (by kernel_rfl) rfl) ?_
     refine LW.e0 rfl (Ef.store1 (by kernel_rfl) rfl rfl rfl (by first | (simp; done) | (simp; omega)) ?_)
     try simp only [List.set_cons_zero, List.set_cons_succ]
     refine LW.done ?_
     refine ⟨_, ?_, _, ⟨_, cutL left q, putL W' q st, st, ⟨fun p hp => hsub p (List.mem_filter.1 hp).1, commit_W hsub hq hW, by omega, fun h => by omega, fun _ => rfl⟩, rfl, (updS rfl (updS rfl (updS rfl (updS rfl (updS rfl rfl))))), rfl⟩, Sub.any⟩
     first | omega | (simp; omega)
  ·
   refine T.skip ?_
   refine T.seq ?_
   refine T.region ?_
   refine LW.q rfl (Qt.move rfl) ?_
   refine LW.q rfl (Qt.move rfl) ?_
   refine LW.q rfl (Qt.assign rfl) ?_
   refine LW.q rfl (Qt.assign rfl) ?_
   refine LW.done ?_
   refine T.ret ?_
   exact ⟨.inl rfl, _, _, res [_, _] rfl ⟨rvT rfl, rvT rfl, trivial⟩, ⟨m, ⟨fun h => by rw [hck] at h; exact absurd h h120, fun h => by rw [hck] at h; exact absurd h h0, fun _ _ => rfl⟩, rfl, rfl⟩, Sub.any⟩

theorem Mv.elemZ : ElemOk Try.prog 26 2 1 8 := .mk' (.int .i64 0) Try.underlying26 (by kernel_rfl) rfl (by omega)
theorem perm_cut {β : Type} : ∀ {left : List (Int × β)} {p : Int × β}, (left.map (·.1)).Nodup → p ∈ left → (left.map (·.1)).Perm (p.1 :: (cutL left p.1).map (·.1))
  | [], _, _, h => by cases h
  | q :: left, p, hn, h => by
    simp only [List.map_cons, List.nodup_cons] at hn
    rcases List.mem_cons.1 h with rfl | h
    · have : cutL (p :: left) p.1 = left := by
        unfold cutL
        rw [List.filter_cons_of_neg (by simp), List.filter_eq_self]
        intro a ha
        simp only [decide_eq_true_eq]
        exact fun e => hn.1 (e ▸ List.mem_map_of_mem ha)
      rw [this]
      exact List.Perm.refl _
    · have hne : q.1 ≠ p.1 := fun e => hn.1 (e ▸ List.mem_map_of_mem h)
      have : cutL (q :: left) p.1 = q :: cutL left p.1 := by
        unfold cutL
        rw [List.filter_cons_of_pos (by simpa using hne)]
      rw [this, List.map_cons, List.map_cons]
      exact ((perm_cut hn.2 h).cons q.1).trans (List.Perm.swap ..)
theorem cut_nodup {β : Type} {left : List (Int × β)} (q : Int) (h : (left.map (·.1)).Nodup) : ((cutL left q).map (·.1)).Nodup := h.sublist ((List.filter_sublist).map _)
theorem cut_lt' {β : Type} {left : List (Int × β)} {q : Int} {c : β} (h : (q, c) ∈ left) : (cutL left q).length < left.length := by
  unfold cutL
  rw [← List.countP_eq_length_filter]
  refine Nat.lt_of_le_of_ne List.countP_le_length fun e => ?_
  have := List.countP_eq_length.1 e _ h
  simp at this
theorem perm_app {a b c : List Int} {q : Int} (h : b.Perm (q :: c)) : (a ++ b).Perm (a ++ [q] ++ c) := by
  rw [List.append_assoc]; exact h.append_left a
set_option maxHeartbeats 1000000 in
theorem Mv.active (B : Base) (g : Nat) (m : Mg) (hs : (m.T.map (·.id)).Pairwise (· ≤ ·)) (hT : m.T.length < 2 ^ 32) : Fn Try.prog B 12 #[.pointer (some ⟨g, 0, none⟩)] (mgC g m) (fun u l => ∃ p c, u = .slice p m.T.length c ∧ l = row (.slice p m.T.length c) 2 1 m.T.length (m.T.map fun x => kZ x.id) :: mgC g m) := by
 simp only [mgC]
 refine Fn.enter1 21 Try.func12 rfl rfl (Nat.le_of_ble_eq_true rfl) (fun F => ?_)
 try simp only [List.cons_append, List.nil_append]
 refine T.seq ?_
 refine T.region ?_
 refine LW.q rfl (Qt.assign rfl) ?_
 refine LW.done ?_
 refine T.seq ?_
 refine T.region ?_
 refine LW.q rfl (Qt.assign rfl) ?_
 refine LW.done ?_
 refine T.seq ?_
 refine T.seq ?_
 refine T.region ?_
 refine LW.q rfl (Qt.move rfl) ?_
 refine LW.q rfl (Qt.nilCheck rfl) ?_
 refine LW.q rfl (Qt.fieldAddr (off := 2) (by kernel_rfl) rfl) ?_
 first | refine LW.q rfl (Qt.load (by kernel_rfl) rfl rfl) ?_ | refine LW.q rfl (Qt.load (by kernel_rfl) rfl (map_at _ _ _ (by omega))) ?_ | refine LW.q rfl (Qt.load (by kernel_rfl) rfl (flat_cell0 _ _ _ (by intros; rfl) _ (by omega) (by rfl))) ?_ | refine LW.q rfl (Qt.load (by kernel_rfl) rfl (flat_cell _ _ _ (by intros; rfl) _ _ (by omega) (by rfl))) ?_ | refine LW.q rfl (Qt.load (by kernel_rfl) rfl (bytes_at _ _ (by omega))) ?_
 refine LW.e rfl (Ef.range Try.underlying42 rfl ?_)
 rintro gi
 try simp only [List.cons_append, List.nil_append]
 refine LW.own (fun w ho => ?_)
 have hnd := ho.mapNodup m.ga
 clear ho
 refine LW.conv (l' := row (.slice none 0 0) 2 1 0 (List.map kZ ([] : List Int)) :: _) (fun w ho => ho.row_nil 2 1) ?_
 refine LW.done ?_
 refine T.block ?_
 refine T.loop (fun mz fz lz => ∃ (f0 : Fr) (left : List (Int × (Int × Nat))) (acc : List Int) (p : Option Addr) (c n : Nat), ((left.map (·.1)).Nodup ∧ (acc ++ left.map (·.1)).Perm (m.T.map (·.id)) ∧ acc.length = n) ∧ mz = left.length ∧ fz = (upd (upd (upd f0 0 (.pointer (some ⟨g, 0, none⟩))) 3 (.slice p n c)) 9 (.pointer (some ⟨gi, 0, none⟩))) ∧ lz = rgA kZ txV gi m.ga (m.T.map txP) left :: row (.slice p n c) 2 1 n (acc.map kZ) :: mgB g m :: wrA m :: ksA m.T :: F) ?_ ?_
 · refine ⟨_, _, ⟨_, m.T.map txP, [], none, 0, 0, ⟨hnd, by rw [List.nil_append, List.map_map]; exact List.Perm.refl _, rfl⟩, rfl, (updS rfl (updS rfl (updS rfl rfl))), rfl⟩, Sub.any⟩
 ·
  rintro mz fz lz ⟨f0, left, acc, p, c, n, ⟨hnd1, hperm, hacc⟩, hmz, rfl, rfl⟩
  subst mz
  try simp only [List.cons_append, List.nil_append]
  have hlen := hperm.length_eq
  simp only [List.length_append, List.length_map] at hlen
  by_cases hlf : left = []
  ·
   subst hlf
   rw [List.map_nil, List.append_nil] at hperm
   obtain rfl : n = m.T.length := by rw [← hacc]; simpa using hlen
   refine T.seq ?_
   refine T.region ?_
   refine LW.e rfl (Ef.nextN rfl rfl ?_)
   try simp only [List.cons_append, List.nil_append]
   refine LW.q rfl (Qt.extr rfl rfl) ?_
   refine LW.done ?_
   refine T.seq ?_
   first | refine T.condF rfl ?_ | refine T.condPF rfl (rfl) ?_ | refine T.condBF rfl (rfl) ?_
   refine T.exit ?_
   refine T.seq ?_
   refine T.region ?_
   refine LW.q rfl (Qt.move rfl) ?_
   refine LW.e rfl (Ef.call (Fn.sortI Try.sortI (.slice p m.T.length c) 2 m.T.length acc hacc (by omega) [] 22 rfl) Try.func22 rfl rfl rfl ?_)
   rintro _ _ ⟨rfl, rfl⟩
   try simp only [List.cons_append, List.nil_append]
   rw [sortZ_perm hperm hs, show (m.T.map (·.id)).map (Value.int .i64) = m.T.map (fun x => kZ x.id) by rw [List.map_map]; rfl]
   refine LW.done ?_
   refine T.seq ?_
   refine T.region ?_
   refine LW.q rfl (Qt.move rfl) ?_
   refine LW.q rfl (Qt.assign rfl) ?_
   refine LW.done ?_
   refine T.ret ?_
   exact ⟨.inl rfl, _, _, res [_] rfl ⟨rvT rfl, trivial⟩, ⟨p, c, rfl, rfl⟩, Sub.any⟩
  ·
   have h1 : 0 < left.length := List.length_pos_iff.2 hlf
   refine T.seq ?_
   refine T.region ?_
   refine LW.e rfl (Ef.nextS (left := left) i64_inj rfl rfl hlf ?_)
   rintro ⟨q, tq⟩ hq
   try simp only [List.cons_append, List.nil_append]
   refine LW.q rfl (Qt.extr rfl rfl) ?_
   refine LW.done ?_
   refine T.seq ?_
   first | refine T.condT rfl ?_ | refine T.condPT rfl (rfl) ?_ | refine T.condBT rfl (rfl) ?_
   refine T.skip ?_
   refine T.block ?_
   refine T.seq ?_
   refine T.region ?_
   refine LW.q rfl (Qt.entry rfl) ?_
   refine LW.q rfl (Qt.extract (v := kZ q) rfl rfl) ?_
   refine LW.q rfl (Qt.assign rfl) ?_
   refine LW.done ?_
   refine T.region ?_
   refine LW.q rfl (Qt.move rfl) ?_
   refine LW.q rfl (Qt.move rfl) ?_
   refine LW.e rfl (Ef.one [_] (e := 2) (sz := 1) (by kernel_rfl) ⟨.int .i64 0, by kernel_rfl, rfl⟩ rfl rfl rfl (by omega) (by omega) ?_)
   intro g16
   refine LW.e rfl (Ef.append Mv.elemZ rfl rfl (SrcOf.blk (by kernel_rfl) rfl (by simp [Value.oneCell'])) (by unfold maxLen; omega) (by omega) ?_)
   rintro p2 c2 hp2
   try simp only [List.cons_append, List.nil_append]
   rw [map_snoc kZ acc q]
   refine LW.q rfl (Qt.assign rfl) ?_
   refine LW.done ?_
   have hc := cut_lt' hq
   refine ⟨_, ?_, _, ⟨_, cutL left q, acc ++ [q], p2, c2, n + 1, ⟨cut_nodup q hnd1, ((perm_app (perm_cut hnd1 hq)).symm.trans hperm), by simp [hacc]⟩, rfl, (updS rfl (updS rfl (updS rfl rfl))), rfl⟩, Sub.any⟩
   first | omega | (simp; omega)
end Go.Proofs.Ytgfbjabjkjbnlaa

/- The package mvcc: its functions over managers that are in order; the statements' awake. Conditions: sizes. -/
set_option linter.unusedSimpArgs false
set_option linter.unusedVariables false
namespace Go.Proofs.Ytgfbjabjkjbnlaa
open Go.RowKit

/-- A manager in order. -/
structure MInv (m : Mg) : Prop where
  ids : (m.T.map (·.id)).Pairwise (· < ·)
  le : ∀ x ∈ m.T, 1 ≤ x.id ∧ x.id ≤ m.begun
  b0 : 0 ≤ m.begun
  l0 : 0 ≤ m.last ∧ m.last ≤ 1099511627776
  n0 : 0 ≤ m.now ∧ m.now ≤ 1099511627776
  sn : ∀ x ∈ m.T, 0 ≤ x.snap ∧ x.snap ≤ m.last
  wr : ∀ k, (lookL m.W k).getD 0 ≤ m.last
theorem Mv.newP (B : Base) (last begun : Int) (hb : -(2 ^ 63) ≤ begun ∧ begun < 2 ^ 63) (hl : -(2 ^ 63) ≤ last ∧ last < 2 ^ 63) :
    Fn Try.prog B 9 #[.int .i64 last, .int .i64 begun] [] (fun u l => ∃ g m, MInv m ∧ m.now = min (max last 0) 1099511627776 ∧ m.last = min (max last 0) 1099511627776 ∧ m.begun = min (max begun 0) 4611686018427387904 ∧ m.T = [] ∧ m.W = [] ∧ u = .pointer (some ⟨g, 0, none⟩) ∧ l = mgC g m) :=
  (Mv.new B last begun hb hl).mono fun v l ⟨g, ga, gw, h1, h2⟩ => ⟨g, _, ⟨List.Pairwise.nil, fun x h => (by cases h), by dsimp only; omega, by dsimp only; omega, by dsimp only; omega, fun x h => (by cases h), fun k => by simp [lookL]; omega⟩, rfl, rfl, rfl, rfl, rfl, h1, h2⟩
structure Begun (m m' : Mg) (x : Tx) : Prop where
  inv : MInv m'
  now : m'.now = m.now
  last : m'.last = m.last
  begun : m'.begun = m.begun + 1
  W : m'.W = m.W
  T : m'.T = m.T ++ [x]
  id : x.id = m.begun + 1
  snap : x.snap = m.last
  ks : x.ks = []
theorem Mv.beginP (B : Base) (g : Nat) (m : Mg) (hI : MInv m) (hb : m.begun < 2 ^ 62 + 2 ^ 61) :
    Fn Try.prog B 10 #[.pointer (some ⟨g, 0, none⟩)] (mgC g m) (fun u l => ∃ m' x, Begun m m' x ∧ u = .tuple #[.int .i64 (m.begun + 1), .int .i64 m.last] ∧ l = mgC g m') :=
  (Mv.begin B g m hb hI.b0 (fun x h => (hI.le x h).2)).mono fun v l ⟨gk, h1, h2⟩ => ⟨{ m with begun := m.begun + 1, T := m.T ++ [⟨m.begun + 1, m.last, gk, []⟩] }, ⟨m.begun + 1, m.last, gk, []⟩, ⟨by
    refine ⟨?_, fun x h => ?_, by have := hI.b0; dsimp only; omega, hI.l0, hI.n0, fun x h => ?_, hI.wr⟩
    · dsimp only
      rw [List.map_append, List.pairwise_append]
      refine ⟨hI.ids, List.pairwise_singleton _ _, fun a ha b hb => ?_⟩
      obtain ⟨x, hx, rfl⟩ := List.mem_map.1 ha
      simp at hb; subst hb
      have := (hI.le x hx).2; omega
    · rcases List.mem_append.1 h with h | h
      · have := hI.le x h; dsimp only; omega
      · simp at h; subst h; have := hI.b0; dsimp only; omega
    · rcases List.mem_append.1 h with h | h
      · exact hI.sn x h
      · simp at h; subst h; have := hI.l0; dsimp only; omega, rfl, rfl, rfl, rfl, rfl, rfl, rfl, rfl⟩, h1, h2⟩
theorem mem_set_of' {α : Type} {l : List α} {i : Nat} {a x : α} (h : x ∈ l.set i a) : x = a ∨ x ∈ l := by
  rcases List.mem_or_eq_of_mem_set h with h | h
  · exact .inr h
  · exact .inl h
theorem writeM_at {m : Mg} {t : Int} {ks : List Str} {i : Nat} {x : Tx} (h : findT m.T t = some (i, x)) : writeM m t ks = ({ m with T := m.T.set i { x with ks := bumps x.ks ks } }, 0) := by unfold writeM; rw [h]
theorem writeM_no {m : Mg} {t : Int} {ks : List Str} (h : findT m.T t = none) : writeM m t ks = (m, 70) := by unfold writeM; rw [h]
theorem MInv.write {m : Mg} (h : MInv m) (t : Int) (ks : List Str) : MInv (writeM m t ks).1 := by
  cases hf : findT m.T t with
  | none => rw [writeM_no hf]; exact h
  | some r =>
    obtain ⟨i, x⟩ := r
    obtain ⟨hx1, hx2, _⟩ := findT_some hf
    have hx := List.mem_of_getElem? hx1
    rw [writeM_at hf]
    refine ⟨?_, fun y hy => ?_, h.b0, h.l0, h.n0, fun y hy => ?_, h.wr⟩
    · dsimp only
      have : (m.T.set i { x with ks := bumps x.ks ks }).map (·.id) = m.T.map (·.id) := by
        have := set_txP hx1 (bumps x.ks ks)
        have := congrArg (List.map Prod.fst) this
        rw [List.map_map, List.map_map] at this
        exact this
      rw [this]; exact h.ids
    · rcases mem_set_of' hy with rfl | hy
      · exact h.le x hx
      · exact h.le y hy
    · rcases mem_set_of' hy with rfl | hy
      · exact h.sn x hx
      · exact h.sn y hy
theorem Mv.writeI (B : Base) (S : List Assn) (g : Nat) (m : Mg) (t : Int) (a : Option Addr) (n c : Nat) (ks : List Str) (hI : MInv m) (hv : RdV B S (.slice a n c) (ks.map kT)) (hn : ks.length = n) (hn2 : n < 2 ^ 32) :
    Fn Try.prog B 11 #[.pointer (some ⟨g, 0, none⟩), .int .i64 t, .slice a n c] (mgB g m :: actA m :: wrA m :: ksA m.T :: S) (fun u l => ∃ m', (writeM m t ks).1 = m' ∧ MInv m' ∧ u = .int .i64 (writeM m t ks).2 ∧ l = mgB g m' :: actA m' :: wrA m' :: ksA m'.T :: S) :=
  (Mv.write B S g m t a n c ks hv hn hn2).mono fun v l ⟨h1, h2⟩ => ⟨_, rfl, hI.write t ks, h1, h2⟩
theorem MInv.drop {m : Mg} (h : MInv m) (t : Int) : MInv { m with T := dropT m.T t } := by
  have hs : (dropT m.T t).Sublist m.T := List.filter_sublist
  exact ⟨h.ids.sublist (hs.map _), fun x hx => h.le x (hs.subset hx), h.b0, h.l0, h.n0, fun x hx => h.sn x (hs.subset hx), h.wr⟩
theorem tickZ_le {now n : Int} (h : 0 ≤ now ∧ now ≤ 1099511627776) : now ≤ tickZ now n ∧ tickZ now n ≤ 1099511627776 := by
  unfold tickZ
  split <;> omega
theorem MInv.tick {m : Mg} (h : MInv m) (n : Int) : MInv { m with now := tickZ m.now n } := by
  have := tickZ_le (n := n) h.n0
  have := h.n0
  exact ⟨h.ids, h.le, h.b0, h.l0, by dsimp only; omega, h.sn, h.wr⟩
/-- A stamp is above all that was. -/
theorem check_stamp {m : Mg} (h : MInv m) {t : Int} (h0 : (checkM m t).2 = 0) : ∃ i x, findT m.T t = some (i, x) ∧ ((x.ks = [] ∧ (checkM m t).1 = x.snap) ∨ (x.ks ≠ [] ∧ (checkM m t).1 = max m.now (m.last + 1) ∧ clashB m.W x.snap x.ks = false ∧ max m.now (m.last + 1) ≤ 1099511627775)) := by
  unfold checkM at h0 ⊢
  cases hf : findT m.T t with
  | none => rw [hf] at h0; simp at h0
  | some r =>
    obtain ⟨i, x⟩ := r
    rw [hf] at h0
    dsimp only at h0 ⊢
    refine ⟨i, x, rfl, ?_⟩
    by_cases h1 : x.ks = []
    · rw [if_pos h1]; exact .inl ⟨h1, rfl⟩
    · rw [if_neg h1] at h0 ⊢
      by_cases h2 : clashB m.W x.snap x.ks = true
      · rw [if_pos h2] at h0; simp at h0
      · rw [if_neg h2] at h0 ⊢
        by_cases h3 : 1099511627775 < max m.now (m.last + 1)
        · rw [if_pos h3] at h0; simp at h0
        · rw [if_neg h3]; exact .inr ⟨h1, rfl, by simpa using h2, by omega⟩
theorem MInv.commit {m m' : Mg} {t : Int} (h : MInv m) (hc : commitP m t m') : MInv m' := by
  obtain ⟨h1, h2, h3⟩ := hc
  by_cases e1 : (checkM m t).2 = 120
  · rw [h1 e1]; exact h.drop t
  · by_cases e2 : (checkM m t).2 = 0
    · obtain ⟨i, x, hx, c⟩ := h2 e2
      obtain ⟨i', x', hx', hs⟩ := check_stamp h e2
      rw [hx] at hx'; cases hx'
      have hd := h.drop t
      have hl : m.last ≤ m'.last ∧ m'.last ≤ 1099511627776 := by
        rw [c.last]
        have := h.l0
        rcases hs with ⟨a, b⟩ | ⟨a, b, _, d⟩
        · rw [if_pos a]; omega
        · rw [if_neg a, b]; omega
      refine ⟨by rw [c.T]; exact hd.ids, fun y hy => by rw [c.T] at hy; rw [c.begun]; exact hd.le y hy, by rw [c.begun]; exact h.b0, by have := h.l0; omega, by rw [c.now]; exact h.n0, fun y hy => by rw [c.T] at hy; have := hd.sn y hy; dsimp only at this; omega, fun k => ?_⟩
      rw [c.W k]
      split
      · rename_i hk
        rw [c.last]
        rcases hs with ⟨a, b⟩ | ⟨a, b, _, d⟩
        · rw [a] at hk; simp at hk
        · rw [if_neg a]; exact Int.le_refl _
      · have := h.wr k; omega
    · rw [h3 e2 e1]; exact h
theorem Mv.commitI (B : Base) (g : Nat) (m : Mg) (t : Int) (hI : MInv m) : Fn Try.prog B 13 #[.pointer (some ⟨g, 0, none⟩), .int .i64 t] (mgC g m) (fun u l => ∃ m', commitP m t m' ∧ MInv m' ∧ u = .tuple #[.int .i64 (checkM m t).1, .int .i64 (checkM m t).2] ∧ l = mgC g m') :=
  (Mv.commit B g m t hI.l0 hI.n0).mono fun v l ⟨m', h1, h2, h3⟩ => ⟨m', h1, hI.commit h1, h2, h3⟩
theorem Mv.activeI (B : Base) (g : Nat) (m : Mg) (n : Nat) (hI : MInv m) (hn : m.T.length = n) (hT : n < 2 ^ 32) : Fn Try.prog B 12 #[.pointer (some ⟨g, 0, none⟩)] (mgC g m) (fun u l => ∃ p c, u = .slice p n c ∧ (0 < n → ∃ g, p = some ⟨g, 0, none⟩) ∧ l = row (.slice p n c) 2 1 n (m.T.map fun x => kZ x.id) :: mgC g m) := ⟨fun w F ho => by
  subst hn
  refine ((Mv.active B g m (hI.ids.imp fun h => Int.le_of_lt h) hT).run w F ho).mono ?_
  rintro e w' ⟨v, l, rfl, ⟨p, c, rfl, rfl⟩, ho'⟩
  simp only [List.cons_append] at ho'
  have hp := (ho'.slice_at (p := p) (m := m.T.length) (c := c)).2.1
  exact ⟨_, _, rfl, ⟨p, c, rfl, hp, rfl⟩, by simpa using ho'⟩⟩
theorem awake_find {x1 x2 : Tx} (h1 : x1.id = 1) (h2 : x2.id = 2) : findT [x1, x2] 1 = some (0, x1) ∧ findT [x1, x2] 2 = some (1, x2) := by
  constructor <;> simp [findT, List.findIdx?_cons, h1, h2]
/-- A block's texts are read. -/
theorem RdV.blkS {B : Base} {g m c : Nat} {t : TypeId} {ks : List Str} (hm : ks.length = m) : RdV B [blk g (ks.map kT) t] (.slice (some ⟨g, 0, none⟩) m c) (ks.map kT) := by
  refine ⟨some ⟨g, 0, none⟩, c, by simp [hm], .inr ⟨g, 0, rfl, fun w ho => ?_⟩⟩
  exact ho.range (g := g) (o := 0) (fun j v h => by rw [Nat.zero_add]; exact h)
set_option maxHeartbeats 4000000 in
set_option maxRecDepth 100000 in
theorem Mv.awake (B : Base) : Fn Try.prog B 8 #[] [] (fun u l => u = .bool true ∧ l = []) := by
  refine Fn.enter0 82 Try.func8 rfl rfl (Nat.le_of_ble_eq_true rfl) (fun F => ?_)
  try simp only [List.cons_append, List.nil_append]
  refine T.seq ?_
  refine T.region ?_
  refine LW.q rfl (Qt.assign rfl) ?_
  refine LW.done ?_
  refine T.seq ?_
  refine T.region ?_
  refine LW.e rfl (Ef.call (Mv.newP B 5 0 (by omega) (by omega)) Try.func9 rfl rfl rfl ?_)
  rintro _ _ ⟨g, m0, hI0, n0, l0, b0, hT0, hW0, rfl, rfl⟩
  try simp only [List.cons_append, List.nil_append]
  refine LW.q rfl (Qt.assign rfl) ?_
  refine LW.done ?_
  refine T.seq ?_
  refine T.seq ?_
  refine T.region ?_
  refine LW.q rfl (Qt.move rfl) ?_
  first | refine LW.q rfl (Qt.eqlNil (by kernel_rfl) rfl rfl) ?_ | refine LW.q rfl (Qt.eqlNN (by kernel_rfl) rfl rfl) ?_
  refine LW.done ?_
  first | refine T.condF rfl ?_ | refine T.condPF rfl (by omega) ?_ | refine T.condBF rfl (by omega) ?_
  refine T.skip ?_
  refine T.seq ?_
  refine T.region ?_
  refine LW.q rfl (Qt.move rfl) ?_
  refine LW.e rfl (Ef.call (Mv.beginP B g m0 hI0 (by omega)) Try.func10 rfl rfl rfl ?_)
  rintro _ _ ⟨m1, x1, hb1, rfl, rfl⟩
  try simp only [List.cons_append, List.nil_append]
  refine LW.q rfl (Qt.move rfl) ?_
  refine LW.q rfl (Qt.extr rfl rfl) ?_
  refine LW.q rfl (Qt.extr rfl rfl) ?_
  refine LW.q rfl (Qt.assign rfl) ?_
  refine LW.q rfl (Qt.assign rfl) ?_
  refine LW.done ?_
  refine T.seq ?_
  refine T.region ?_
  refine LW.q rfl (Qt.move rfl) ?_
  refine LW.e rfl (Ef.call (Mv.beginP B g m1 hb1.inv (by rw [hb1.begun]; omega)) Try.func10 rfl rfl rfl ?_)
  rintro _ _ ⟨m2, x2, hb2, rfl, rfl⟩
  try simp only [List.cons_append, List.nil_append]
  refine LW.q rfl (Qt.move rfl) ?_
  refine LW.q rfl (Qt.extr rfl rfl) ?_
  refine LW.q rfl (Qt.extr rfl rfl) ?_
  refine LW.q rfl (Qt.assign rfl) ?_
  refine LW.q rfl (Qt.assign rfl) ?_
  refine LW.done ?_
  refine T.seq ?_
  refine T.seq ?_
  refine T.region ?_
  refine LW.q rfl (Qt.move rfl) ?_
  refine LW.q rfl (Qt.neq rfl rfl) ?_
  refine LW.q rfl (Qt.move rfl) ?_
  have hid1 : x1.id = 1 := by rw [hb1.id]; omega
  have hid2 : x2.id = 2 := by rw [hb2.id, hb1.begun]; omega
  have hT2 : m2.T = [x1, x2] := by rw [hb2.T, hb1.T, hT0]; rfl
  rw [show m0.begun + 1 = 1 by omega, show m1.begun + 1 = 2 by rw [hb1.begun]; omega, show m0.last = 5 by omega]
  first | refine LW.gF (t := 25) rfl rfl ?_ | refine LW.gF (t := 25) rfl (decide_eq_false (by omega)) ?_ | refine LW.gF (t := 25) rfl (by omega) ?_
  refine LW.q rfl (Qt.move rfl) ?_
  refine LW.q rfl (Qt.neq rfl rfl) ?_
  refine LW.q rfl (Qt.pick rfl rfl) ?_
  refine LW.q rfl (Qt.move rfl) ?_
  first | refine LW.gF (t := 29) rfl rfl ?_ | refine LW.gF (t := 29) rfl (decide_eq_false (by omega)) ?_ | refine LW.gF (t := 29) rfl (by omega) ?_
  refine LW.q rfl (Qt.move rfl) ?_
  refine LW.q rfl (Qt.neq rfl rfl) ?_
  refine LW.q rfl (Qt.pick rfl rfl) ?_
  refine LW.q rfl (Qt.move rfl) ?_
  first | refine LW.gF (t := 33) rfl rfl ?_ | refine LW.gF (t := 33) rfl (decide_eq_false (by omega)) ?_ | refine LW.gF (t := 33) rfl (by omega) ?_
  refine LW.q rfl (Qt.move rfl) ?_
  refine LW.q rfl (Qt.move rfl) ?_
  refine LW.e rfl (Ef.lit [_, _] (e := 9) (by kernel_rfl) (by kernel_rfl) rfl (by simp [Value.cells]) rfl (by omega) (by omega) ?_)
  intro g36
  obtain ⟨f1, f2⟩ := awake_find hid1 hid2
  have hf1 : findT m2.T 1 = some (0, x1) := by rw [hT2]; exact f1
  refine LW.e rfl (Ef.call (Mv.writeI B [blk g36 [Value.string ⟨#[97]⟩, Value.string ⟨#[98]⟩] 9] g m2 1 (some ⟨g36, 0, none⟩) 2 2 [[97], [98]] hb2.inv (RdV.blkS (ks := [[97], [98]]) rfl) rfl (by omega)) Try.func11 rfl rfl rfl ?_)
  rintro _ _ ⟨m3, hm3, hI3, rfl, rfl⟩
  try simp only [List.cons_append, List.nil_append]
  rw [show (writeM m2 1 [[97], [98]]).2 = 0 by rw [writeM_at hf1]]
  refine LW.q rfl (Qt.neq rfl rfl) ?_
  refine LW.q rfl (Qt.pick rfl rfl) ?_
  refine LW.q rfl (Qt.move rfl) ?_
  obtain ⟨y1, hy1⟩ : ∃ y1 : Tx, ({ x1 with ks := bumps x1.ks [[97], [98]] } : Tx) = y1 := ⟨_, rfl⟩
  have hT3 : m3.T = [y1, x2] := by rw [← hm3, writeM_at hf1, ← hy1]; dsimp only; rw [hT2]; rfl
  have hw3 : m3.W = [] ∧ m3.now = 5 ∧ m3.last = 5 := by rw [← hm3, writeM_at hf1]; dsimp only; rw [hb2.W, hb1.W, hW0, hb2.now, hb1.now, hb2.last, hb1.last, n0, l0]; exact ⟨rfl, rfl, rfl⟩
  have hyi : y1.id = 1 ∧ y1.snap = 5 ∧ y1.ks = [([97], 1), ([98], 1)] := by rw [← hy1]; dsimp only; rw [hid1, hb1.snap, l0, hb1.ks]; exact ⟨rfl, rfl, rfl⟩
  obtain ⟨f3, f4⟩ := awake_find hyi.1 hid2
  have hf4 : findT m3.T 2 = some (1, x2) := by rw [hT3]; exact f4
  first | refine LW.gF (t := 40) rfl rfl ?_ | refine LW.gF (t := 40) rfl (decide_eq_false ((by simp))) ?_ | refine LW.gF (t := 40) rfl ((by simp)) ?_
  refine LW.q rfl (Qt.move rfl) ?_
  refine LW.q rfl (Qt.move rfl) ?_
  refine LW.e rfl (Ef.one [_] (e := 9) (sz := 1) (by kernel_rfl) ⟨.string .empty, by kernel_rfl, rfl⟩ rfl rfl rfl (by omega) (by omega) ?_)
  intro g43
  refine LW.e rfl (Ef.call (Mv.writeI B [blk g43 [Value.string ⟨#[98]⟩] 9] g m3 2 (some ⟨g43, 0, none⟩) 1 1 [[98]] hI3 (RdV.blkS (ks := [[98]]) rfl) rfl (by omega)) Try.func11 rfl rfl rfl ?_)
  rintro _ _ ⟨m4, hm4, hI4, rfl, rfl⟩
  try simp only [List.cons_append, List.nil_append]
  rw [show (writeM m3 2 [[98]]).2 = 0 by rw [writeM_at hf4]]
  refine LW.q rfl (Qt.neq rfl rfl) ?_
  refine LW.q rfl (Qt.pick rfl rfl) ?_
  refine LW.done ?_
  obtain ⟨y2, hy2⟩ : ∃ y2 : Tx, ({ x2 with ks := bumps x2.ks [[98]] } : Tx) = y2 := ⟨_, rfl⟩
  have hT4 : m4.T = [y1, y2] := by rw [← hm4, writeM_at hf4, ← hy2]; dsimp only; rw [hT3]; rfl
  have hw4 : m4.W = [] ∧ m4.now = 5 ∧ m4.last = 5 := by rw [← hm4, writeM_at hf4]; exact hw3
  have hyj : y2.id = 2 ∧ y2.snap = 5 ∧ y2.ks = [([98], 1)] := by rw [← hy2]; dsimp only; rw [hid2, hb2.snap, hb1.last, l0, hb2.ks]; exact ⟨rfl, rfl, rfl⟩
  obtain ⟨f5, f6⟩ := awake_find hyi.1 hyj.1
  have hf5 : findT m4.T 1 = some (0, y1) := by rw [hT4]; exact f5
  have hc5 : checkM m4 1 = (6, 0) := by unfold checkM; rw [hf5]; dsimp only; rw [hyi.2.2, hyi.2.1, hw4.1, hw4.2.1, hw4.2.2]; rfl
  first | refine T.condF rfl ?_ | refine T.condPF rfl ((by simp)) ?_ | refine T.condBF rfl ((by simp)) ?_
  refine T.skip ?_
  refine T.seq ?_
  refine T.region ?_
  refine LW.q rfl (Qt.move rfl) ?_
  refine LW.q rfl (Qt.move rfl) ?_
  refine LW.e rfl (Ef.call (Mv.commitI B g m4 1 hI4) Try.func13 rfl rfl rfl ?_)
  rintro _ _ ⟨m5, hm5, hI5, rfl, rfl⟩
  try simp only [List.cons_append, List.nil_append]
  rw [hc5]
  refine LW.q rfl (Qt.move rfl) ?_
  refine LW.q rfl (Qt.extr rfl rfl) ?_
  refine LW.q rfl (Qt.extr rfl rfl) ?_
  refine LW.q rfl (Qt.assign rfl) ?_
  refine LW.q rfl (Qt.assign rfl) ?_
  refine LW.done ?_
  refine T.seq ?_
  refine T.region ?_
  refine LW.q rfl (Qt.move rfl) ?_
  refine LW.q rfl (Qt.move rfl) ?_
  obtain ⟨_, q2, _⟩ := hm5
  obtain ⟨i5, z5, hz5, c5⟩ := q2 (by rw [hc5])
  obtain ⟨rfl, rfl⟩ : 0 = i5 ∧ y1 = z5 := by rw [hf5] at hz5; cases hz5; exact ⟨rfl, rfl⟩
  have hT5 : m5.T = [y2] := by rw [c5.T, hT4]; unfold dropT; rw [List.filter_cons_of_neg (by simp [hyi.1]), List.filter_cons_of_pos (by simp [hyj.1])]; rfl
  have hl5 : m5.last = 6 := by rw [c5.last, hc5, hyi.2.2]; rfl
  have hf6 : findT m5.T 2 = some (0, y2) := by rw [hT5]; simp [findT, List.findIdx?_cons, hyj.1]
  have hw5 : (lookL m5.W [98]).getD 0 = 6 := by rw [c5.W, hyi.2.2, hc5]; rfl
  have hc6 : checkM m5 2 = (0, 120) := by unfold checkM; rw [hf6]; dsimp only; rw [hyj.2.2, hyj.2.1, if_neg (by simp), if_pos (by simp [clashB, hw5])]
  refine LW.e rfl (Ef.call (Mv.commitI B g m5 2 hI5) Try.func13 rfl rfl rfl ?_)
  rintro _ _ ⟨m6, hm6, hI6, rfl, rfl⟩
  try simp only [List.cons_append, List.nil_append]
  rw [hc6]
  refine LW.q rfl (Qt.move rfl) ?_
  refine LW.q rfl (Qt.extr rfl rfl) ?_
  refine LW.q rfl (Qt.extr rfl rfl) ?_
  refine LW.q rfl (Qt.assign rfl) ?_
  refine LW.q rfl (Qt.assign rfl) ?_
  refine LW.done ?_
  refine T.seq ?_
  refine T.region ?_
  refine LW.q rfl (Qt.move rfl) ?_
  refine LW.q rfl (Qt.eql rfl rfl) ?_
  refine LW.q rfl (Qt.move rfl) ?_
  have hm6' := hm6.1 (by rw [hc6])
  have hT6 : m6.T = [] := by rw [hm6']; dsimp only; rw [hT5]; unfold dropT; rw [List.filter_cons_of_neg (by simp [hyj.1])]; rfl
  have hl6 : m6.last = 6 := by rw [hm6']; exact hl5
  first | refine LW.gT (t := 61) rfl rfl ?_ | refine LW.gT (t := 61) rfl (decide_eq_true (rfl)) ?_ | refine LW.gT (t := 61) rfl (rfl) ?_
  refine LW.q rfl (Qt.move rfl) ?_
  refine LW.q rfl (Qt.eql rfl rfl) ?_
  refine LW.q rfl (Qt.pick rfl rfl) ?_
  refine LW.q rfl (Qt.move rfl) ?_
  first | refine LW.gT (t := 65) rfl rfl ?_ | refine LW.gT (t := 65) rfl (decide_eq_true (rfl)) ?_ | refine LW.gT (t := 65) rfl (rfl) ?_
  refine LW.q rfl (Qt.move rfl) ?_
  refine LW.q rfl (Qt.eql rfl rfl) ?_
  refine LW.q rfl (Qt.pick rfl rfl) ?_
  refine LW.q rfl (Qt.move rfl) ?_
  first | refine LW.gT (t := 69) rfl rfl ?_ | refine LW.gT (t := 69) rfl (decide_eq_true (rfl)) ?_ | refine LW.gT (t := 69) rfl (rfl) ?_
  refine LW.q rfl (Qt.move rfl) ?_
  refine LW.q rfl (Qt.nilCheck rfl) ?_
  refine LW.q rfl (Qt.fieldAddr0 (by kernel_rfl) rfl) ?_
  refine LW.e rfl (Ef.call (Mv.last B g m6) Try.func16 rfl rfl rfl ?_)
  rintro _ _ ⟨rfl, rfl⟩
  try simp only [List.cons_append, List.nil_append]
  rw [hl6]
  refine LW.q rfl (Qt.eql rfl rfl) ?_
  refine LW.q rfl (Qt.pick rfl rfl) ?_
  refine LW.q rfl (Qt.move rfl) ?_
  first | refine LW.gT (t := 76) rfl rfl ?_ | refine LW.gT (t := 76) rfl (decide_eq_true (rfl)) ?_ | refine LW.gT (t := 76) rfl (rfl) ?_
  refine LW.q rfl (Qt.move rfl) ?_
  refine LW.e rfl (Ef.call (Mv.activeI B g m6 0 hI6 (by rw [hT6]; rfl) (by omega)) Try.func12 rfl rfl rfl ?_)
  rintro _ _ ⟨p7, c7, rfl, _, rfl⟩
  try simp only [List.cons_append, List.nil_append]
  refine LW.q rfl (Qt.len (e := 2) (sz := 1) (by kernel_rfl) rfl) ?_
  refine LW.q rfl (Qt.eql rfl rfl) ?_
  refine LW.q rfl (Qt.pick rfl rfl) ?_
  refine LW.q rfl (Qt.assign rfl) ?_
  refine LW.done ?_
  refine T.ret ?_
  exact ⟨.inl rfl, _, _, res [_] rfl ⟨rvT rfl, trivial⟩, ⟨rfl, rfl⟩, Sub.any⟩
end Go.Proofs.Ytgfbjabjkjbnlaa

/- A contract used where there is more. Conditions: none. -/
set_option linter.unusedSimpArgs false
set_option linter.unusedVariables false
namespace Go.Proofs.Ytgfbjabjkjbnlaa
open Go.RowKit

/-- A contract used where there is more. -/
theorem Fn.wide {P : Program} {B : Base} {g : FuncId} {args : Array Value} {pre l F : List Assn} {R R' : Value → List Assn → Prop} (h : Fn P B g args pre R) [k : TakeL pre l F] (hr : ∀ v l', R v l' → ∃ l2, Sub (l' ++ F) l2 ∧ R' v l2) : Fn P B g args l R' := ⟨fun w F0 ho => by
  have ho' : Own B w (pre ++ (F ++ F0)) := ho.map fun hh H => by
    obtain ⟨h1, h2, d, a, b, e1, e2⟩ := Has.split H
    rw [← List.append_assoc]
    exact Has.join d a b (k.take _ e1) e2
  refine (h.run w (F ++ F0) ho').mono ?_
  rintro _ w' ⟨v, l', rfl, hR, ho2⟩
  obtain ⟨l2, hs, hR'⟩ := hr v l' hR
  refine ⟨v, l2, rfl, hR', ho2.map fun hh H => ?_⟩
  rw [← List.append_assoc] at H
  obtain ⟨h1, h2, d, a, b, e1, e2⟩ := Has.split H
  exact Has.join d a b (hs _ e1) e2⟩

end Go.Proofs.Ytgfbjabjkjbnlaa

/- The statements MvccStamps, MvccAborts, MvccReads. Conditions: that what is handed in can be read; sizes. -/
set_option linter.unusedSimpArgs false
set_option linter.unusedVariables false
namespace Go.Proofs.Ytgfbjabjkjbnlaa
open Go.RowKit

structure Ticked (m m' : Mg) (n : Int) : Prop where
  inv : MInv m'
  now : m'.now = tickZ m.now n
  last : m'.last = m.last
  begun : m'.begun = m.begun
  W : m'.W = m.W
  T : m'.T = m.T
theorem Mv.tickI (B : Base) (g : Nat) (m : Mg) (n : Int) (hI : MInv m) : Fn Try.prog B 15 #[.pointer (some ⟨g, 0, none⟩), .int .i64 n] (mgC g m) (fun u l => ∃ m', Ticked m m' n ∧ u = .tuple #[] ∧ l = mgC g m') := by
  refine Fn.wide (Mv.tick B g m n hI.n0) ?_
  rintro v l ⟨rfl, rfl⟩
  exact ⟨mgC g { m with now := tickZ m.now n }, fun h H => H, _, ⟨hI.tick n, rfl, rfl, rfl, rfl, rfl⟩, rfl, rfl⟩
theorem no_clash {W : List (Str × Int)} {snap : Int} {ks : List (Str × Int)} (h : ∀ k, (lookL W k).getD 0 ≤ snap) : clashB W snap ks = false := by
  unfold clashB
  rw [List.any_eq_false]
  intro p _
  have := h p.1
  simpa using this
end Go.Proofs.Ytgfbjabjkjbnlaa

/- The statement MvccReads. Conditions: that what is handed in can be read; sizes. -/
set_option linter.unusedSimpArgs false
set_option linter.unusedVariables false
namespace Go.Proofs.Ytgfbjabjkjbnlaa
open Go.RowKit

structure OpM where
  kind : Int
  txn : Int
  keys : List Str
  n : Int
/-- A slice of calls that lies in memory that is only read. -/
def RoLM (B : Base) (v : Value) (l : List OpM) : Prop := ∃ a cap, v = .slice a l.length cap ∧ (l = [] ∨ ∃ b o C, a = some ⟨b, o, none⟩ ∧ ROc B b C ∧
  ∀ i (hi : i < l.length), ∃ da dc, rdl C (o + i * 4) [.int .i64 l[i].kind, .int .i64 l[i].txn, .slice da l[i].keys.length dc, .int .i64 l[i].n] ∧ RoS B (.slice da l[i].keys.length dc) (l[i].keys.map kT))

theorem findT_of {m : Mg} (h : MInv m) {x : Tx} (hx : x ∈ m.T) : ∃ i, findT m.T x.id = some (i, x) := by
  cases hf : findT m.T x.id with
  | none => exact absurd rfl ((findT_none hf).2 x hx)
  | some r =>
    obtain ⟨i, y⟩ := r
    obtain ⟨h1, h2, _⟩ := findT_some hf
    have hy := List.mem_of_getElem? h1
    have key : ∀ (T : List Tx), (T.map (·.id)).Pairwise (· < ·) → ∀ x ∈ T, ∀ y ∈ T, x.id = y.id → x = y := by
      intro T
      induction T with
      | nil => intro _ x hx; cases hx
      | cons a T ih =>
        intro hp x hx y hy e
        rw [List.map_cons, List.pairwise_cons] at hp
        rcases List.mem_cons.1 hx with h1 | hx
        · rcases List.mem_cons.1 hy with h2 | hy
          · rw [h1, h2]
          · have := hp.1 y.id (List.mem_map_of_mem hy); rw [← e, h1] at this; omega
        · rcases List.mem_cons.1 hy with h2 | hy
          · have := hp.1 x.id (List.mem_map_of_mem hx); rw [e, h2] at this; omega
          · exact ih hp.2 x hx y hy e
    rw [key m.T h.ids y hy x hx h2]
    exact ⟨i, rfl⟩
theorem write_mem {m : Mg} {u : Int} {ks : List Str} {x : Tx} (hx : x ∈ m.T) (hne : x.id ≠ u) : x ∈ (writeM m u ks).1.T := by
  cases hf : findT m.T u with
  | none => rw [writeM_no hf]; exact hx
  | some r =>
    obtain ⟨i, y⟩ := r
    obtain ⟨h1, h2, _⟩ := findT_some hf
    rw [writeM_at hf]
    obtain ⟨j, hj, e⟩ := List.getElem_of_mem hx
    have hij : i ≠ j := fun q => by subst q; rw [List.getElem?_eq_getElem hj] at h1; cases h1; rw [e] at h2; exact hne h2
    have : (m.T.set i { y with ks := bumps y.ks ks })[j]? = some x := by rw [List.getElem?_set_ne hij, List.getElem?_eq_getElem hj, e]
    exact List.mem_of_getElem? this
theorem drop_mem {T : List Tx} {u : Int} {x : Tx} (hx : x ∈ T) (hne : x.id ≠ u) : x ∈ dropT T u := List.mem_filter.2 ⟨hx, by simpa using hne⟩
theorem commit_mem {m m' : Mg} {u : Int} (hc : commitP m u m') {x : Tx} (hx : x ∈ m.T) (hne : x.id ≠ u) : x ∈ m'.T := by
  obtain ⟨h1, h2, h3⟩ := hc
  by_cases e1 : (checkM m u).2 = 120
  · rw [h1 e1]; exact drop_mem hx hne
  · by_cases e2 : (checkM m u).2 = 0
    · obtain ⟨i, y, hy, c⟩ := h2 e2
      rw [c.T]; exact drop_mem hx hne
    · rw [h3 e2 e1]; exact hx
theorem write_begun (m : Mg) (u : Int) (ks : List Str) : (writeM m u ks).1.begun = m.begun ∧ (writeM m u ks).1.last = m.last := by
  cases hf : findT m.T u with
  | none => rw [writeM_no hf]; exact ⟨rfl, rfl⟩
  | some r => rw [writeM_at hf]; exact ⟨rfl, rfl⟩
theorem commit_begun {m m' : Mg} {u : Int} (hI : MInv m) (hc : commitP m u m') : m'.begun = m.begun ∧ m.last ≤ m'.last := by
  obtain ⟨h1, h2, h3⟩ := hc
  by_cases e1 : (checkM m u).2 = 120
  · rw [h1 e1]; exact ⟨rfl, Int.le_refl _⟩
  · by_cases e2 : (checkM m u).2 = 0
    · obtain ⟨i, y, hy, c⟩ := h2 e2
      obtain ⟨i', x', hx', hs⟩ := check_stamp hI e2
      rw [hy] at hx'; cases hx'
      refine ⟨c.begun, ?_⟩
      rw [c.last]
      rcases hs with ⟨a, b⟩ | ⟨a, b, _⟩
      · rw [if_pos a]; exact Int.le_refl _
      · rw [if_neg a, b]; omega
    · rw [h3 e2 e1]; exact ⟨rfl, Int.le_refl _⟩

/-- The one who only reads, once it has begun. -/
def RdOk (m : Mg) (t s : Int) : Prop := t = 0 ∨ ∃ x ∈ m.T, x.id = t ∧ x.ks = [] ∧ x.snap = s
set_option maxHeartbeats 8000000 in
set_option maxRecDepth 100000 in
theorem Mv.reads (B : Base) (sv : Value) (sc : List OpM) (hsv : RoLM B sv sc) (hsl : sc.length ≤ 1048576) (hop : ∀ x ∈ sc, x.keys.length ≤ 1048576) (rd : Int) : Fn Try.prog B 6 #[sv, .int .i64 rd] [] (fun u l => u = .bool true ∧ l = []) := by
 obtain ⟨sa, scap, rfl, hsc⟩ := hsv
 refine Fn.enter2 129 Try.func6 rfl rfl (Nat.le_of_ble_eq_true rfl) (fun F => ?_)
 try simp only [List.cons_append, List.nil_append]
 refine T.seq ?_
 refine T.region ?_
 refine LW.q rfl (Qt.assign rfl) ?_
 refine LW.done ?_
 refine T.seq ?_
 refine T.seq ?_
 refine T.region ?_
 refine LW.e rfl (Ef.call (Mv.awake B) Try.func8 rfl rfl rfl ?_)
 rintro _ _ ⟨rfl, rfl⟩
 try simp only [List.cons_append, List.nil_append]
 first | refine LW.q rfl (Qt.notP rfl) ?_ | refine LW.q rfl (Qt.notB rfl) ?_
 refine LW.done ?_
 first | refine T.condF rfl ?_ | refine T.condPF rfl (by omega) ?_ | refine T.condBF rfl (by omega) ?_
 refine T.skip ?_
 refine T.seq ?_
 refine T.region ?_
 refine LW.e rfl (Ef.call (Mv.newP B 3 0 (by omega) (by omega)) Try.func9 rfl rfl rfl ?_)
 rintro _ _ ⟨g, m0, hI0, n0, l0, b0, hT0, hW0, rfl, rfl⟩
 try simp only [List.cons_append, List.nil_append]
 refine LW.q rfl (Qt.assign rfl) ?_
 refine LW.done ?_
 refine T.seq ?_
 refine T.region ?_
 refine LW.q rfl (Qt.assign rfl) ?_
 refine LW.q rfl (Qt.assign rfl) ?_
 refine LW.done ?_
 refine T.seq ?_
 refine T.seq ?_
 refine T.region ?_
 refine LW.q rfl (Qt.move rfl) ?_
 refine LW.q rfl (Qt.len (e := 30) (sz := 4) (by kernel_rfl) rfl) ?_
 refine LW.q rfl (Qt.move rfl) ?_
 refine LW.done ?_
 refine T.block ?_
 refine T.loop (fun mz fz lz => ∃ (f0 : Fr) (k : Nat) (m : Mg) (t s : Int), (k ≤ sc.length ∧ MInv m ∧ RdOk m t s ∧ 3 ≤ m.last ∧ m.begun ≤ 2 * k) ∧ mz = sc.length - k ∧ fz = (upd (upd (upd (upd (upd (upd (upd f0 1 (.int .i64 rd)) 5 (.pointer (some ⟨g, 0, none⟩))) 6 (.int .i64 t)) 7 (.int .i64 s)) 20 (.slice sa sc.length scap)) 21 (.int .i64 sc.length)) 22 (.int .i64 k)) ∧ lz = mgB g m :: actA m :: wrA m :: ksA m.T :: F) ?_ ?_
 · refine ⟨_, _, ⟨_, 0, m0, 0, 0, ⟨Nat.zero_le _, hI0, .inl rfl, by omega, by omega⟩, rfl, (updS rfl (updS rfl (updS rfl (updS rfl (updS rfl (updS rfl (updS rfl rfl))))))), rfl⟩, Sub.any⟩
 ·
  rintro mz fz lz ⟨f0, k, m, t, s, ⟨hk, hI, hR, h3, hbg⟩, hmz, rfl, rfl⟩
  subst mz
  try simp only [List.cons_append, List.nil_append]
  refine T.seq ?_
  refine T.region ?_
  refine LW.q rfl (Qt.lss rfl rfl) ?_
  refine LW.done ?_
  refine T.seq ?_
  refine T.condP rfl (fun hlt => ?_) (fun hlt => ?_)
  ·
   obtain ⟨kb, ko, C, rfl, hro, hC⟩ := hsc.resolve_left (by intro e; rw [e] at hlt; simp at hlt; omega)
   obtain ⟨da, dc, hrd, hdv⟩ := hC k (by omega)
   have hxl := hop sc[k] (List.getElem_mem _)
   obtain ⟨o, ho⟩ : ∃ o, sc[k] = o := ⟨_, rfl⟩
   rw [ho] at hrd hdv hxl
   refine T.skip ?_
   refine T.seq ?_
   refine T.block ?_
   refine T.seq ?_
   refine T.region ?_
   refine LW.q rfl (Qt.move rfl) ?_
   refine LW.q rfl (Qt.index _ (e := 30) (sz := 4) (by kernel_rfl) rfl rfl rfl (by omega)) ?_
   refine LW.q rfl (Qt.loadAgg [_, _, _, _] (by kernel_rfl) rfl hrd) ?_
   refine LW.e rfl (Ef.alloc [.int .i64 0, .int .i64 0, .slice none 0 0, .int .i64 0] (by unfold zeroB; kernel_rfl) ?_)
   intro g9
   refine LW.q rfl (Qt.assign rfl) ?_
   refine LW.e0 rfl (Ef.store [_, _, _, _] (by kernel_rfl) rfl rfl rfl rfl (by simp) ?_)
   try simp only [splice, List.length_cons, List.length_nil, List.drop_succ_cons, List.cons_append, List.take_succ_cons, List.take_zero, List.drop_zero, List.nil_append, List.append_nil]
   refine LW.done ?_
   refine T.cut (fun fz lz => ∃ (f0 : Fr) (m2 : Mg) (t2 s2 : Int), (MInv m2 ∧ RdOk m2 t2 s2 ∧ 3 ≤ m2.last ∧ m2.begun ≤ 2 * k + 1) ∧ fz = (upd (upd (upd (upd (upd (upd (upd (upd f0 1 (.int .i64 rd)) 5 (.pointer (some ⟨g, 0, none⟩))) 6 (.int .i64 t2)) 7 (.int .i64 s2)) 9 (.pointer (some ⟨g9, 0, none⟩))) 20 (.slice (some ⟨kb, ko, none⟩) sc.length scap)) 21 (.int .i64 sc.length)) 22 (.int .i64 k)) ∧ lz = mgB g m2 :: actA m2 :: wrA m2 :: ksA m2.T :: blk g9 [.int .i64 o.kind, .int .i64 o.txn, .slice da o.keys.length dc, .int .i64 o.n] 30 :: F) ?_ ?_
   ·
    refine T.seq ?_
    refine T.region ?_
    refine LW.q rfl (Qt.move rfl) ?_
    refine LW.q rfl (Qt.move rfl) ?_
    refine LW.q rfl (Qt.eql rfl rfl) ?_
    refine LW.done ?_
    refine T.condP rfl (fun hrk => ?_) (fun hrk => ?_)
    ·
     refine T.region ?_
     refine LW.q rfl (Qt.move rfl) ?_
     refine LW.e rfl (Ef.call (Mv.beginP B g m hI (by omega)) Try.func10 rfl rfl rfl ?_)
     rintro _ _ ⟨m2, x, hb2, rfl, rfl⟩
     try simp only [List.cons_append, List.nil_append]
     refine LW.q rfl (Qt.move rfl) ?_
     refine LW.q rfl (Qt.extr rfl rfl) ?_
     refine LW.q rfl (Qt.extr rfl rfl) ?_
     refine LW.q rfl (Qt.assign rfl) ?_
     refine LW.q rfl (Qt.assign rfl) ?_
     refine LW.done ?_
     exact ⟨_, ⟨_, m2, m.begun + 1, m.last, ⟨hb2.inv, .inr ⟨x, by rw [hb2.T]; simp, hb2.id, hb2.ks, hb2.snap⟩, by rw [hb2.last]; exact h3, by rw [hb2.begun]; omega⟩, (updS rfl (updS rfl (updS rfl (updS rfl (updS rfl (updS rfl (updS rfl (updS rfl rfl)))))))), rfl⟩, Sub.any⟩
    ·
     refine T.skip ?_
     exact ⟨_, ⟨_, m, t, s, ⟨hI, hR, h3, by omega⟩, (updS rfl (updS rfl (updS rfl (updS rfl (updS rfl (updS rfl (updS rfl (updS rfl rfl)))))))), rfl⟩, Sub.any⟩
   rintro fz lz ⟨f0, m2, t2, s2, ⟨hI2, hR2, h32, hbg2⟩, rfl, rfl⟩
   try simp only [List.cons_append, List.nil_append]
   refine T.seq ?_
   refine T.region ?_
   refine LW.q rfl (Qt.fieldAddr0 (by kernel_rfl) rfl) ?_
   first | refine LW.q rfl (Qt.load (by kernel_rfl) rfl rfl) ?_ | refine LW.q rfl (Qt.load (by kernel_rfl) rfl (map_at _ _ _ (by omega))) ?_ | refine LW.q rfl (Qt.load (by kernel_rfl) rfl (flat_cell0 _ _ _ (by intros; rfl) _ (by omega) (by rfl))) ?_ | refine LW.q rfl (Qt.load (by kernel_rfl) rfl (flat_cell _ _ _ (by intros; rfl) _ _ (by omega) (by rfl))) ?_ | refine LW.q rfl (Qt.load (by kernel_rfl) rfl (bytes_at _ _ (by omega))) ?_
   refine LW.done ?_
   refine T.block ?_
   refine T.seq ?_
   refine T.region ?_
   refine LW.q rfl (Qt.eql rfl rfl) ?_
   refine LW.q rfl (Qt.assign rfl) ?_
   refine LW.done ?_
   refine T.condP rfl (fun k0 => ?_) (fun k0 => ?_)
   ·
    refine T.region ?_
    refine LW.q rfl (Qt.move rfl) ?_
    refine LW.e rfl (Ef.call (Mv.beginP B g m2 hI2 (by omega)) Try.func10 rfl rfl rfl ?_)
    rintro _ _ ⟨m3, x, hb3, rfl, rfl⟩
    try simp only [List.cons_append, List.nil_append]
    refine LW.done ?_
    refine T.region ?_
    refine LW.q rfl (Qt.add rfl rfl (wr64 (by omega) (by omega))) ?_
    refine LW.q rfl (Qt.move rfl) ?_
    refine LW.done ?_
    refine ⟨_, ?_, _, ⟨_, k + 1, m3, t2, s2, ⟨by omega, hb3.inv, hR2.imp id fun ⟨y, h1, h2⟩ => ⟨y, by rw [hb3.T]; exact List.mem_append_left _ h1, h2⟩, by rw [hb3.last]; exact h32, by rw [hb3.begun]; omega⟩, rfl, (updS rfl (updS rfl (updS rfl (updS rfl (updS rfl (updS rfl (updS rfl rfl))))))), rfl⟩, Sub.any⟩
    first | omega | (simp; omega)
   ·
    refine T.seq ?_
    refine T.region ?_
    refine LW.q rfl (Qt.eql rfl rfl) ?_
    refine LW.q rfl (Qt.assign rfl) ?_
    refine LW.done ?_
    refine T.condP rfl (fun k1 => ?_) (fun k1 => ?_)
    ·
     refine T.seq ?_
     refine T.region ?_
     refine LW.q rfl (Qt.fieldAddr (off := 1) (by kernel_rfl) rfl) ?_
     first | refine LW.q rfl (Qt.load (by kernel_rfl) rfl rfl) ?_ | refine LW.q rfl (Qt.load (by kernel_rfl) rfl (map_at _ _ _ (by omega))) ?_ | refine LW.q rfl (Qt.load (by kernel_rfl) rfl (flat_cell0 _ _ _ (by intros; rfl) _ (by omega) (by rfl))) ?_ | refine LW.q rfl (Qt.load (by kernel_rfl) rfl (flat_cell _ _ _ (by intros; rfl) _ _ (by omega) (by rfl))) ?_ | refine LW.q rfl (Qt.load (by kernel_rfl) rfl (bytes_at _ _ (by omega))) ?_
     refine LW.q rfl (Qt.move rfl) ?_
     refine LW.q rfl (Qt.neq rfl rfl) ?_
     refine LW.done ?_
     refine T.condP rfl (fun hne => ?_) (fun hne => ?_)
     ·
      refine T.region ?_
      refine LW.q rfl (Qt.move rfl) ?_
      refine LW.q rfl (Qt.fieldAddr (off := 1) (by kernel_rfl) rfl) ?_
      first | refine LW.q rfl (Qt.load (by kernel_rfl) rfl rfl) ?_ | refine LW.q rfl (Qt.load (by kernel_rfl) rfl (map_at _ _ _ (by omega))) ?_ | refine LW.q rfl (Qt.load (by kernel_rfl) rfl (flat_cell0 _ _ _ (by intros; rfl) _ (by omega) (by rfl))) ?_ | refine LW.q rfl (Qt.load (by kernel_rfl) rfl (flat_cell _ _ _ (by intros; rfl) _ _ (by omega) (by rfl))) ?_ | refine LW.q rfl (Qt.load (by kernel_rfl) rfl (bytes_at _ _ (by omega))) ?_
      refine LW.q rfl (Qt.fieldAddr (off := 2) (by kernel_rfl) rfl) ?_
      first | refine LW.q rfl (Qt.load (by kernel_rfl) rfl rfl) ?_ | refine LW.q rfl (Qt.load (by kernel_rfl) rfl (map_at _ _ _ (by omega))) ?_ | refine LW.q rfl (Qt.load (by kernel_rfl) rfl (flat_cell0 _ _ _ (by intros; rfl) _ (by omega) (by rfl))) ?_ | refine LW.q rfl (Qt.load (by kernel_rfl) rfl (flat_cell _ _ _ (by intros; rfl) _ _ (by omega) (by rfl))) ?_ | refine LW.q rfl (Qt.load (by kernel_rfl) rfl (bytes_at _ _ (by omega))) ?_
      refine LW.e rfl (Ef.call (Mv.writeI B [] g m2 o.txn da o.keys.length dc o.keys hI2 (hdv.rd _) rfl (by omega)) Try.func11 rfl rfl rfl ?_)
      rintro _ _ ⟨m3, hm3, hI3, rfl, rfl⟩
      try simp only [List.cons_append, List.nil_append]
      refine LW.done ?_
      refine T.region ?_
      refine LW.q rfl (Qt.add rfl rfl (wr64 (by omega) (by omega))) ?_
      refine LW.q rfl (Qt.move rfl) ?_
      refine LW.done ?_
      have hwb := write_begun m2 o.txn o.keys
      rw [hm3] at hwb
      refine ⟨_, ?_, _, ⟨_, k + 1, m3, t2, s2, ⟨by omega, hI3, hR2.imp id fun ⟨y, h1, h2, h4⟩ => ⟨y, by rw [← hm3]; exact write_mem h1 (by rw [h2]; exact fun e => hne e.symm), h2, h4⟩, by omega, by omega⟩, rfl, (updS rfl (updS rfl (updS rfl (updS rfl (updS rfl (updS rfl (updS rfl rfl))))))), rfl⟩, Sub.any⟩
      first | omega | (simp; omega)
     ·
      refine T.skip ?_
      refine T.region ?_
      refine LW.q rfl (Qt.add rfl rfl (wr64 (by omega) (by omega))) ?_
      refine LW.q rfl (Qt.move rfl) ?_
      refine LW.done ?_
      refine ⟨_, ?_, _, ⟨_, k + 1, m2, t2, s2, ⟨by omega, hI2, hR2, h32, by omega⟩, rfl, (updS rfl (updS rfl (updS rfl (updS rfl (updS rfl (updS rfl (updS rfl rfl))))))), rfl⟩, Sub.any⟩
      first | omega | (simp; omega)
    ·
     refine T.seq ?_
     refine T.region ?_
     refine LW.q rfl (Qt.eql rfl rfl) ?_
     refine LW.q rfl (Qt.assign rfl) ?_
     refine LW.done ?_
     refine T.condP rfl (fun k2 => ?_) (fun k2 => ?_)
     ·
      refine T.seq ?_
      refine T.region ?_
      refine LW.q rfl (Qt.fieldAddr (off := 1) (by kernel_rfl) rfl) ?_
      first | refine LW.q rfl (Qt.load (by kernel_rfl) rfl rfl) ?_ | refine LW.q rfl (Qt.load (by kernel_rfl) rfl (map_at _ _ _ (by omega))) ?_ | refine LW.q rfl (Qt.load (by kernel_rfl) rfl (flat_cell0 _ _ _ (by intros; rfl) _ (by omega) (by rfl))) ?_ | refine LW.q rfl (Qt.load (by kernel_rfl) rfl (flat_cell _ _ _ (by intros; rfl) _ _ (by omega) (by rfl))) ?_ | refine LW.q rfl (Qt.load (by kernel_rfl) rfl (bytes_at _ _ (by omega))) ?_
      refine LW.q rfl (Qt.move rfl) ?_
      refine LW.q rfl (Qt.neq rfl rfl) ?_
      refine LW.done ?_
      refine T.condP rfl (fun hne => ?_) (fun hne => ?_)
      ·
       refine T.region ?_
       refine LW.q rfl (Qt.move rfl) ?_
       refine LW.q rfl (Qt.fieldAddr (off := 1) (by kernel_rfl) rfl) ?_
       first | refine LW.q rfl (Qt.load (by kernel_rfl) rfl rfl) ?_ | refine LW.q rfl (Qt.load (by kernel_rfl) rfl (map_at _ _ _ (by omega))) ?_ | refine LW.q rfl (Qt.load (by kernel_rfl) rfl (flat_cell0 _ _ _ (by intros; rfl) _ (by omega) (by rfl))) ?_ | refine LW.q rfl (Qt.load (by kernel_rfl) rfl (flat_cell _ _ _ (by intros; rfl) _ _ (by omega) (by rfl))) ?_ | refine LW.q rfl (Qt.load (by kernel_rfl) rfl (bytes_at _ _ (by omega))) ?_
       refine LW.e rfl (Ef.call (Mv.commitI B g m2 o.txn hI2) Try.func13 rfl rfl rfl ?_)
       rintro _ _ ⟨m3, hm3, hI3, rfl, rfl⟩
       try simp only [List.cons_append, List.nil_append]
       refine LW.done ?_
       refine T.region ?_
       refine LW.q rfl (Qt.add rfl rfl (wr64 (by omega) (by omega))) ?_
       refine LW.q rfl (Qt.move rfl) ?_
       refine LW.done ?_
       have hwb := commit_begun hI2 hm3
       refine ⟨_, ?_, _, ⟨_, k + 1, m3, t2, s2, ⟨by omega, hI3, hR2.imp id fun ⟨y, h1, h2, h4⟩ => ⟨y, commit_mem hm3 h1 (by rw [h2]; exact fun e => hne e.symm), h2, h4⟩, by omega, by omega⟩, rfl, (updS rfl (updS rfl (updS rfl (updS rfl (updS rfl (updS rfl (updS rfl rfl))))))), rfl⟩, Sub.any⟩
       first | omega | (simp; omega)
      ·
       refine T.skip ?_
       refine T.region ?_
       refine LW.q rfl (Qt.add rfl rfl (wr64 (by omega) (by omega))) ?_
       refine LW.q rfl (Qt.move rfl) ?_
       refine LW.done ?_
       refine ⟨_, ?_, _, ⟨_, k + 1, m2, t2, s2, ⟨by omega, hI2, hR2, h32, by omega⟩, rfl, (updS rfl (updS rfl (updS rfl (updS rfl (updS rfl (updS rfl (updS rfl rfl))))))), rfl⟩, Sub.any⟩
       first | omega | (simp; omega)
     ·
      refine T.seq ?_
      refine T.region ?_
      refine LW.q rfl (Qt.eql rfl rfl) ?_
      refine LW.q rfl (Qt.assign rfl) ?_
      refine LW.done ?_
      refine T.condP rfl (fun k4 => ?_) (fun k4 => ?_)
      ·
       refine T.draw 6 ([blk g9 [.int .i64 o.kind, .int .i64 o.txn, .slice da o.keys.length dc, .int .i64 o.n] 30]) (by kernel_rfl) (Nat.le_of_ble_eq_true rfl) (by kernel_rfl) ?_
       refine RW.q 0 rfl rfl (by kernel_rfl) Sub.any (Qt.move rfl) ?_
       refine RW.q 1 rfl rfl (by kernel_rfl) Sub.any (Qt.nilCheck rfl) ?_
       refine RW.q 2 rfl rfl (by kernel_rfl) Sub.any (Qt.fieldAddr0 (by kernel_rfl) rfl) ?_
       refine RW.q 3 rfl rfl (by kernel_rfl) Sub.any (Qt.fieldAddr (off := 3) (by kernel_rfl) rfl) ?_
       first | refine RW.q 4 rfl rfl (by kernel_rfl) Sub.any (Qt.load (by kernel_rfl) rfl rfl) ?_ | refine RW.q 4 rfl rfl (by kernel_rfl) Sub.any (Qt.load (by kernel_rfl) rfl (map_at _ _ _ (by omega))) ?_ | refine RW.q 4 rfl rfl (by kernel_rfl) Sub.any (Qt.load (by kernel_rfl) rfl (flat_cell0 _ _ _ (by intros; rfl) _ (by omega) (by rfl))) ?_ | refine RW.q 4 rfl rfl (by kernel_rfl) Sub.any (Qt.load (by kernel_rfl) rfl (flat_cell _ _ _ (by intros; rfl) _ _ (by omega) (by rfl))) ?_ | refine RW.q 4 rfl rfl (by kernel_rfl) Sub.any (Qt.load (by kernel_rfl) rfl (bytes_at _ _ (by omega))) ?_
       refine RW.one 5 (by kernel_rfl) ?_
       refine RO.eS rfl rfl (Ef.call (Mv.tickI B g m2 o.n hI2) Try.func15 rfl rfl rfl ?_)
       rintro _ _ ⟨m3, ht3, rfl, rfl⟩
       try simp only [List.cons_append, List.nil_append]
       refine ⟨Sub.any, ?_⟩
       refine RW.done (by rfl) ?_
       simp only [List.drop_succ_cons, List.drop_zero, List.drop_nil]
       refine LW.done ?_
       refine T.region ?_
       refine LW.q rfl (Qt.add rfl rfl (wr64 (by omega) (by omega))) ?_
       refine LW.q rfl (Qt.move rfl) ?_
       refine LW.done ?_
       refine ⟨_, ?_, _, ⟨_, k + 1, m3, t2, s2, ⟨by omega, ht3.inv, hR2.imp id fun ⟨y, h1, h2⟩ => ⟨y, by rw [ht3.T]; exact h1, h2⟩, by rw [ht3.last]; exact h32, by rw [ht3.begun]; omega⟩, rfl, (updS rfl (updS rfl (updS rfl (updS rfl (updS rfl (updS rfl (updS rfl rfl))))))), rfl⟩, Sub.any⟩
       first | omega | (simp; omega)
      ·
       refine T.skip ?_
       refine T.region ?_
       refine LW.q rfl (Qt.add rfl rfl (wr64 (by omega) (by omega))) ?_
       refine LW.q rfl (Qt.move rfl) ?_
       refine LW.done ?_
       refine ⟨_, ?_, _, ⟨_, k + 1, m2, t2, s2, ⟨by omega, hI2, hR2, h32, by omega⟩, rfl, (updS rfl (updS rfl (updS rfl (updS rfl (updS rfl (updS rfl (updS rfl rfl))))))), rfl⟩, Sub.any⟩
       first | omega | (simp; omega)
  ·
   refine T.exit ?_
   refine T.seq ?_
   refine T.seq ?_
   refine T.region ?_
   refine LW.q rfl (Qt.move rfl) ?_
   refine LW.q rfl (Qt.eql rfl rfl) ?_
   refine LW.done ?_
   refine T.condP rfl (fun ht0 => ?_) (fun ht0 => ?_)
   ·
    refine T.seq ?_
    refine T.region ?_
    refine LW.q rfl (Qt.move rfl) ?_
    refine LW.q rfl (Qt.nilCheck rfl) ?_
    refine LW.q rfl (Qt.fieldAddr0 (by kernel_rfl) rfl) ?_
    refine LW.e rfl (Ef.call (Mv.last B g m) Try.func16 rfl rfl rfl ?_)
    rintro _ _ ⟨rfl, rfl⟩
    try simp only [List.cons_append, List.nil_append]
    refine LW.q rfl (Qt.geq rfl rfl) ?_
    refine LW.q rfl (Qt.assign rfl) ?_
    refine LW.done ?_
    refine T.ret ?_
    exact ⟨.inl rfl, _, _, res [_] rfl ⟨rvT rfl, trivial⟩, ⟨by simp [outV]; omega, rfl⟩, Sub.any⟩
   ·
    obtain ⟨x, hx1, hx2, hx3, hx4⟩ := hR.resolve_left ht0
    obtain ⟨i, hfi⟩ := findT_of hI hx1
    rw [hx2] at hfi
    have hck : checkM m t = (s, 0) := by unfold checkM; rw [hfi]; dsimp only; rw [if_pos hx3, hx4]
    refine T.skip ?_
    refine T.seq ?_
    refine T.region ?_
    refine LW.q rfl (Qt.move rfl) ?_
    refine LW.q rfl (Qt.nilCheck rfl) ?_
    refine LW.q rfl (Qt.fieldAddr0 (by kernel_rfl) rfl) ?_
    refine LW.e rfl (Ef.call (Mv.last B g m) Try.func16 rfl rfl rfl ?_)
    rintro _ _ ⟨rfl, rfl⟩
    try simp only [List.cons_append, List.nil_append]
    refine LW.q rfl (Qt.assign rfl) ?_
    refine LW.done ?_
    refine T.seq ?_
    refine T.region ?_
    refine LW.q rfl (Qt.move rfl) ?_
    refine LW.q rfl (Qt.move rfl) ?_
    refine LW.e rfl (Ef.call (Mv.snapshot B g m t) Try.func19 rfl rfl rfl ?_)
    rintro _ _ ⟨rfl, rfl⟩
    try simp only [List.cons_append, List.nil_append]
    rw [hfi]
    dsimp only
    rw [hx4]
    refine LW.q rfl (Qt.move rfl) ?_
    refine LW.q rfl (Qt.extr rfl rfl) ?_
    refine LW.q rfl (Qt.extr rfl rfl) ?_
    refine LW.q rfl (Qt.assign rfl) ?_
    refine LW.q rfl (Qt.assign rfl) ?_
    refine LW.done ?_
    refine T.seq ?_
    refine T.region ?_
    refine LW.q rfl (Qt.move rfl) ?_
    refine LW.q rfl (Qt.move rfl) ?_
    refine LW.e rfl (Ef.call (Mv.commitI B g m t hI) Try.func13 rfl rfl rfl ?_)
    rintro _ _ ⟨m2, hm2, hI2, rfl, rfl⟩
    try simp only [List.cons_append, List.nil_append]
    rw [hck]
    refine LW.q rfl (Qt.move rfl) ?_
    refine LW.q rfl (Qt.extr rfl rfl) ?_
    refine LW.q rfl (Qt.extr rfl rfl) ?_
    refine LW.q rfl (Qt.assign rfl) ?_
    refine LW.q rfl (Qt.assign rfl) ?_
    refine LW.done ?_
    refine T.seq ?_
    refine T.region ?_
    refine LW.q rfl (Qt.move rfl) ?_
    refine LW.q rfl (Qt.move rfl) ?_
    obtain ⟨_, q2, _⟩ := hm2
    obtain ⟨i2, z2, hz2, c2⟩ := q2 (by rw [hck])
    obtain rfl : x = z2 := by rw [hfi] at hz2; cases hz2; rfl
    have hno : findT m2.T t = none := by
     unfold findT
     rw [List.findIdx?_eq_none_iff.2 fun y hy => by rw [c2.T] at hy; have := (List.mem_filter.1 hy).2; simpa using this]
    refine LW.e rfl (Ef.call (Mv.snapshot B g m2 t) Try.func19 rfl rfl rfl ?_)
    rintro _ _ ⟨rfl, rfl⟩
    try simp only [List.cons_append, List.nil_append]
    rw [hno]
    refine LW.q rfl (Qt.move rfl) ?_
    refine LW.q rfl (Qt.extr rfl rfl) ?_
    refine LW.q rfl (Qt.extr rfl rfl) ?_
    refine LW.q rfl (Qt.assign rfl) ?_
    refine LW.q rfl (Qt.assign rfl) ?_
    refine LW.done ?_
    refine T.seq ?_
    refine T.region ?_
    refine LW.q rfl (Qt.move rfl) ?_
    refine LW.q rfl (Qt.move rfl) ?_
    refine LW.q rfl (Qt.eql rfl rfl) ?_
    refine LW.q rfl (Qt.move rfl) ?_
    first | refine LW.gT (t := 104) rfl rfl ?_ | refine LW.gT (t := 104) rfl (decide_eq_true (rfl)) ?_ | refine LW.gT (t := 104) rfl (rfl) ?_
    refine LW.q rfl (Qt.move rfl) ?_
    refine LW.q rfl (Qt.eql rfl rfl) ?_
    refine LW.q rfl (Qt.pick rfl rfl) ?_
    refine LW.q rfl (Qt.move rfl) ?_
    first | refine LW.gT (t := 108) rfl rfl ?_ | refine LW.gT (t := 108) rfl (decide_eq_true (rfl)) ?_ | refine LW.gT (t := 108) rfl (rfl) ?_
    refine LW.q rfl (Qt.move rfl) ?_
    refine LW.q rfl (Qt.move rfl) ?_
    refine LW.q rfl (Qt.eql rfl rfl) ?_
    refine LW.q rfl (Qt.pick rfl rfl) ?_
    refine LW.q rfl (Qt.move rfl) ?_
    first | refine LW.gT (t := 113) rfl rfl ?_ | refine LW.gT (t := 113) rfl (decide_eq_true (rfl)) ?_ | refine LW.gT (t := 113) rfl (rfl) ?_
    refine LW.q rfl (Qt.move rfl) ?_
    refine LW.q rfl (Qt.eql rfl rfl) ?_
    refine LW.q rfl (Qt.pick rfl rfl) ?_
    refine LW.q rfl (Qt.move rfl) ?_
    first | refine LW.gT (t := 117) rfl rfl ?_ | refine LW.gT (t := 117) rfl (decide_eq_true (rfl)) ?_ | refine LW.gT (t := 117) rfl (rfl) ?_
    refine LW.q rfl (Qt.move rfl) ?_
    refine LW.q rfl (Qt.eql rfl rfl) ?_
    refine LW.q rfl (Qt.pick rfl rfl) ?_
    refine LW.q rfl (Qt.move rfl) ?_
    first | refine LW.gT (t := 121) rfl rfl ?_ | refine LW.gT (t := 121) rfl (decide_eq_true (rfl)) ?_ | refine LW.gT (t := 121) rfl (rfl) ?_
    refine LW.q rfl (Qt.move rfl) ?_
    refine LW.q rfl (Qt.nilCheck rfl) ?_
    refine LW.q rfl (Qt.fieldAddr0 (by kernel_rfl) rfl) ?_
    refine LW.e rfl (Ef.call (Mv.last B g m2) Try.func16 rfl rfl rfl ?_)
    rintro _ _ ⟨rfl, rfl⟩
    try simp only [List.cons_append, List.nil_append]
    refine LW.q rfl (Qt.move rfl) ?_
    refine LW.q rfl (Qt.eql rfl rfl) ?_
    refine LW.q rfl (Qt.pick rfl rfl) ?_
    refine LW.q rfl (Qt.assign rfl) ?_
    refine LW.done ?_
    refine T.ret ?_
    exact ⟨.inl rfl, _, _, res [_] rfl ⟨rvT rfl, trivial⟩, ⟨by rw [show m2.last = m.last by rw [c2.last, if_pos hx3]]; simp [outV], rfl⟩, Sub.any⟩
end Go.Proofs.Ytgfbjabjkjbnlaa

/- How the transactions' struct Op reads. -/
set_option linter.unusedSimpArgs false
set_option linter.unusedVariables false
namespace Go.Proofs.Ytgfbjabjkjbnlaa
open Go.ChangeShapes Go.WideShapes Go.ChangeAt Go.RowKit

def OpMR (W : World) (cs : List Value) (o : OpM) : Prop := ∃ kv, cs = [.int .i64 o.kind, .int .i64 o.txn, kv, .int .i64 o.n] ∧ RoS (baseOf W) kv (o.keys.map kT)
section
variable {H : Type} {enc : TypeId × Value → H} {W : World}
theorem read_opM (n : Nat) (cs : List Value) (y : DataW H × List MemPlace) (h : Tr enc Try.prog W n 30 cs = some y) : ∃ o : OpM, OpMR W cs o ∧ o.keys.length + 1 ≤ Rows.uptoBulk y.1 := by
  obtain ⟨xs, m, rfl, rfl, hl, hx, hf⟩ := DataW.trod_struct Try.underlying30 h
  rw [show Try.prog.cellsOf 30 = 4 by kernel_rfl] at hl
  have four : ∀ {α : Type} {l : List α}, l.length = 4 → ∃ a b c d, l = [a, b, c, d] := fun {α} {l} h => by
    match l, h with
    | [a, b, c, d], _ => exact ⟨a, b, c, d, rfl⟩
  obtain ⟨c0, c1, c2, c3, rfl⟩ := four hl
  obtain ⟨x0, x1, x2, x3, rfl⟩ := four hx
  have k0 : Try.prog.cellsOf 3 = 1 := by kernel_rfl
  have k1 : Try.prog.cellsOf 2 = 1 := by kernel_rfl
  have k2 : Try.prog.cellsOf 28 = 1 := by kernel_rfl
  have f0 := field_of hf 0 3 0 1 rfl k0
  have f1 := field_of hf 1 2 1 1 rfl k1
  have f2 := field_of hf 2 28 2 1 rfl k2
  have f3 := field_of hf 3 2 3 1 rfl k1
  simp only [List.drop_zero, List.drop_succ_cons, List.take_succ_cons, List.take_zero, List.getElem?_cons_zero, List.getElem?_cons_succ] at f0 f1 f2 f3
  obtain ⟨i0, e0, _, _⟩ := DataW.trod_int Try.underlying3 f0
  obtain ⟨i1, e1, _, _⟩ := DataW.trod_int Try.underlying2 f1
  obtain ⟨lk, hk, hkl⟩ := read_strs Try.underlying28 Try.underlying9 (by kernel_rfl) _ _ _ f2
  obtain ⟨i3, e3, _, _⟩ := DataW.trod_int Try.underlying2 f3
  simp only [List.cons.injEq, and_true] at e0 e1 e3
  subst e0; subst e1; subst e3
  refine ⟨⟨i0, i1, lk, i3⟩, ⟨c2, rfl, hk⟩, ?_⟩
  have := len_le_sum List.length lk
  simp only [List.map_cons, List.map_nil, Rows.uptoBulk, Rows.uptoBulkAll]
  omega
end
theorem SliceAt.roLM {W : World} {v : Value} {l : List OpM} (h : SliceAt W 4 (OpMR W) v l) : RoLM (baseOf W) v l := by
  obtain ⟨sa, sc, e, h⟩ := h.ro (by omega)
  refine ⟨sa, sc, e, h.imp id ?_⟩
  rintro ⟨b, o, C, e1, e2, h⟩
  refine ⟨b, o, C, e1, e2, fun i hi => ?_⟩
  obtain ⟨cells, h1, kv, rfl, hd⟩ := h i hi
  obtain ⟨da, dc, e, hx⟩ := hd
  rw [List.length_map] at e
  subst e
  exact ⟨da, dc, h1, da, dc, by rw [List.length_map], hx⟩
end Go.Proofs.Ytgfbjabjkjbnlaa

/- The document's manager (annalsref12): what it is in memory; New, Tick, Begin, Find, Write, Without. Conditions: sizes; that what is handed in can be read. -/
set_option linter.unusedSimpArgs false
set_option linter.unusedVariables false
namespace Go.Proofs.Ytgfbjabjkjbnlaa
open Go.RowKit

/-- A list of keys as it lies somewhere; all that were ever made. -/
structure Kq where
  p : Option Addr
  c : Nat
  ks : List Str
abbrev kqV (q : Kq) : Value := .slice q.p q.ks.length q.c
def poS (Q : List Kq) : Assn := sepL (Q.map fun q => row (kqV q) 9 1 q.ks.length (q.ks.map kT))
def InQ (Q : List Kq) (q : Kq) : Prop := q.ks = [] ∨ (q ∈ Q ∧ (0 < q.ks.length → ∃ g, q.p = some ⟨g, 0, none⟩))
theorem InQ.mono {Q Q' : List Kq} {q : Kq} (h : InQ Q q) (hs : ∀ x ∈ Q, x ∈ Q') : InQ Q' q := h.imp id fun ⟨a, b⟩ => ⟨hs _ a, b⟩
theorem RdV.pool {B : Base} {Q : List Kq} {q : Kq} (h : InQ Q q) : RdV B [poS Q] (kqV q) (q.ks.map kT) := by
  rcases h with h | ⟨h1, h2⟩
  · unfold kqV; rw [h]; exact RdV.empty _ _ _
  · obtain ⟨i, hi, rfl⟩ := List.getElem_of_mem h1
    refine RdV.ofRow (e := 9) (fun w ho => ?_) (by simp) h2
    have : Own B w (row (kqV Q[i]) 9 1 Q[i].ks.length (Q[i].ks.map kT) :: sepL ((Q.map fun q => row (kqV q) 9 1 q.ks.length (q.ks.map kT)).eraseIdx i) :: []) := ho.map fun k H => sep_take (by rw [List.getElem?_map, List.getElem?_eq_getElem hi]; rfl) H
    exact this.row_owns
theorem po_push {Q : List Kq} (q : Kq) {l : List Assn} {h : Piece} (H : Has (row (kqV q) 9 1 q.ks.length (q.ks.map kT) :: poS Q :: l) h) : Has (poS (Q ++ [q]) :: l) h := by
  unfold poS at H ⊢
  rw [List.map_append]
  exact sep_push H
theorem Own.po_push {B : Base} {w : World} {L r r2 : List Assn} {Q : List Kq} (q : Kq) (H : Own B w L) [k1 : TakeA (row (kqV q) 9 1 q.ks.length (q.ks.map kT)) L r] [k2 : TakeA (poS Q) r r2] : Own B w (poS (Q ++ [q]) :: r2) := H.map fun h K => @Go.Proofs.Ytgfbjabjkjbnlaa.po_push Q q r2 h (Has.cons_imp k2.take (k1.take _ K))

structure Rt where
  id : Int
  snap : Int
  q : Kq
structure Rh where
  id : Int
  stamp : Int
  q : Kq
abbrev rtC (t : Rt) : List Value := [.int .i64 t.id, .int .i64 t.snap, kqV t.q]
abbrev rtR (p : Option Addr) (n c : Nat) (T : List Rt) : Assn := row (.slice p n c) 60 3 n (T.flatMap rtC)
structure Rm where
  now : Int
  last : Int
  begun : Int
  T : List Rt
  H : List Rh
abbrev rmL (m : Rm) (pt : Option Addr) (nt ct : Nat) (ph : Option Addr) (nh ch : Nat) : List Value := [.int .i64 m.now, .int .i64 m.last, .int .i64 m.begun, .slice pt nt ct, .slice ph nh ch]
abbrev rmV (m : Rm) (pt : Option Addr) (nt ct : Nat) (ph : Option Addr) (nh ch : Nat) : Value := .agg #[.int .i64 m.now, .int .i64 m.last, .int .i64 m.begun, .slice pt nt ct, .slice ph nh ch]
theorem Mw.elemT : ElemOk Try.prog 52 60 3 40 := .mk' (.agg #[.int .i64 0, .int .i64 0, .slice none 0 0]) Try.underlying52 (by kernel_rfl) rfl (by omega)
theorem Mw.elemS : ElemOk Try.prog 28 9 1 16 := .mk' (.string ⟨#[]⟩) Try.underlying28 (by kernel_rfl) rfl (by omega)
theorem one_rt {T : List Rt} : ∀ v ∈ T.flatMap rtC, v.oneCell' = true := by
  intro v hv
  obtain ⟨p, _, hp⟩ := List.mem_flatMap.1 hv
  simp only [rtC, List.mem_cons, List.not_mem_nil, or_false] at hp
  rcases hp with rfl | rfl | rfl <;> rfl
theorem one_kT {l : List Str} : ∀ v ∈ l.map kT, v.oneCell' = true := by
  intro v hv; obtain ⟨d, _, rfl⟩ := List.mem_map.1 hv; rfl
theorem flat3 {α : Type} (g : α → List Value) (hg : ∀ x, (g x).length = 3) {T : List α} {i : Nat} {x : α} (h : T[i]? = some x) (j : Nat) (hj : j < 3) : (T.flatMap g)[0 + i * 3 + j]? = (g x)[j]? := by
  induction T generalizing i with
  | nil => simp at h
  | cons y R ih =>
    cases i with
    | zero =>
      simp at h; subst h
      rw [List.flatMap_cons, Nat.zero_mul, Nat.add_zero, Nat.zero_add, List.getElem?_append_left (by rw [hg]; exact hj)]
    | succ i =>
      have := ih (i := i) (by simpa using h)
      rw [List.flatMap_cons, List.getElem?_append_right (by rw [hg]; omega), ← this, hg]
      congr 1
      omega
theorem flat3_set {α : Type} (g : α → List Value) (hg : ∀ x, (g x).length = 3) {T : List α} {i : Nat} {x y : α} (h : T[i]? = some x) (j : Nat) (hj : j < 3) (v : Value) (hy : g y = (g x).set j v) : (T.flatMap g).set (0 + i * 3 + j) v = (T.set i y).flatMap g := by
  induction T generalizing i with
  | nil => simp at h
  | cons z R ih =>
    cases i with
    | zero =>
      simp at h; subst h
      rw [List.flatMap_cons, Nat.zero_mul, Nat.add_zero, Nat.zero_add, List.set_append_left _ _ (by rw [hg]; exact hj), ← hy]
      rfl
    | succ i =>
      have := ih (i := i) (by simpa using h)
      rw [List.flatMap_cons, List.set_cons_succ, List.flatMap_cons, ← this, List.set_append_right _ _ (by rw [hg]; omega), hg]
      congr 2
      omega
theorem flat3_len {α : Type} (g : α → List Value) (hg : ∀ x, (g x).length = 3) (T : List α) : (T.flatMap g).length = T.length * 3 := flat_length g 3 _ (fun x _ => hg x)

theorem Mw.tick (B : Base) (m : Rm) (pt : Option Addr) (nt ct : Nat) (ph : Option Addr) (nh ch : Nat) (n : Int) (hn : 0 ≤ m.now ∧ m.now ≤ 1099511627776) : Fn Try.prog B 29 #[rmV m pt nt ct ph nh ch, .int .i64 n] [] (fun u l => u = rmV { m with now := tickZ m.now n } pt nt ct ph nh ch ∧ l = []) := by
 refine Fn.enter2 23 Try.func29 rfl rfl (Nat.le_of_ble_eq_true rfl) (fun F => ?_)
 try simp only [List.cons_append, List.nil_append]
 refine T.seq ?_
 refine T.region ?_
 refine LW.e rfl (Ef.box [_, _, _, _, _] rfl rfl ?_)
 intro g2
 refine LW.e rfl (Ef.alloc [.int .i64 0, .int .i64 0, .int .i64 0, .slice none 0 0, .slice none 0 0] (by unfold zeroB; kernel_rfl) ?_)
 intro g4
 refine LW.done ?_
 refine T.seq ?_
 refine T.seq ?_
 refine T.region ?_
 refine LW.q rfl (Qt.move rfl) ?_
 refine LW.q rfl (Qt.gtr rfl rfl) ?_
 refine LW.q rfl (Qt.move rfl) ?_
 refine LW.split (t := 7) rfl (fun h1 => ?_) (fun h1 => ?_)
 ·
  try replace h1 := of_decide_eq_true h1
  refine LW.q rfl (Qt.move rfl) ?_
  refine LW.q rfl (Qt.fieldAddr0 (by kernel_rfl) rfl) ?_
  first | refine LW.q rfl (Qt.load (by kernel_rfl) rfl rfl) ?_ | refine LW.q rfl (Qt.load (by kernel_rfl) rfl (map_at _ _ _ (by omega))) ?_ | refine LW.q rfl (Qt.load (by kernel_rfl) rfl (flat_cell0 _ _ _ (by intros; rfl) _ (by omega) (by rfl))) ?_ | refine LW.q rfl (Qt.load (by kernel_rfl) rfl (flat_cell _ _ _ (by intros; rfl) _ _ (by omega) (by rfl))) ?_ | refine LW.q rfl (Qt.load (by kernel_rfl) rfl (bytes_at _ _ (by omega))) ?_
  refine LW.q rfl (Qt.sub rfl rfl (wr64 (by omega) (by omega))) ?_
  refine LW.q rfl (Qt.gtr rfl rfl) ?_
  refine LW.q rfl (Qt.pick rfl rfl) ?_
  refine LW.done ?_
  refine T.condP rfl (fun h2 => ?_) (fun h2 => ?_)
  ·
   refine T.region ?_
   refine LW.q rfl (Qt.fieldAddr0 (by kernel_rfl) rfl) ?_
   refine LW.e0 rfl (Ef.store1 (by kernel_rfl) rfl rfl rfl (by first | (simp; done) | (simp; omega)) ?_)
   try simp only [List.set_cons_zero, List.set_cons_succ]
   refine LW.done ?_
   refine T.seq ?_
   refine T.region ?_
   first | refine LW.q rfl (Qt.loadAgg [_, _, _, _, _] (by kernel_rfl) rfl ⟨rfl, rfl, rfl, rfl, rfl, trivial⟩) ?_ | refine LW.q rfl (Qt.loadAgg [_, _, _, _, _] (by kernel_rfl) rfl (by exact rdl_flat _ _ _ (by intros; rfl) _ (by omega))) ?_
   refine LW.e0 rfl (Ef.store [_, _, _, _, _] (by kernel_rfl) rfl rfl rfl rfl (by simp) ?_)
   try simp only [splice, List.length_cons, List.length_nil, List.drop_succ_cons, List.cons_append, List.take_succ_cons, List.take_zero, List.drop_zero, List.nil_append, List.append_nil]
   refine LW.done ?_
   refine T.ret ?_
   exact ⟨.inl rfl, _, _, res [_] rfl ⟨rvA [_, _, _, _, _] (by kernel_rfl) rfl ⟨rfl, rfl, rfl, rfl, rfl, trivial⟩, trivial⟩, ⟨by unfold tickZ; rw [if_pos h1, show m.now + min n (1099511627776 - m.now) = 1099511627776 by omega]; rfl, rfl⟩, Sub.any⟩
  ·
   refine T.seq ?_
   refine T.region ?_
   refine LW.q rfl (Qt.move rfl) ?_
   refine LW.q rfl (Qt.gtr rfl rfl) ?_
   refine LW.done ?_
   first | refine T.condT rfl ?_ | refine T.condPT rfl (by omega) ?_ | refine T.condBT rfl (by omega) ?_
   refine T.region ?_
   refine LW.q rfl (Qt.fieldAddr0 (by kernel_rfl) rfl) ?_
   first | refine LW.q rfl (Qt.load (by kernel_rfl) rfl rfl) ?_ | refine LW.q rfl (Qt.load (by kernel_rfl) rfl (map_at _ _ _ (by omega))) ?_ | refine LW.q rfl (Qt.load (by kernel_rfl) rfl (flat_cell0 _ _ _ (by intros; rfl) _ (by omega) (by rfl))) ?_ | refine LW.q rfl (Qt.load (by kernel_rfl) rfl (flat_cell _ _ _ (by intros; rfl) _ _ (by omega) (by rfl))) ?_ | refine LW.q rfl (Qt.load (by kernel_rfl) rfl (bytes_at _ _ (by omega))) ?_
   refine LW.q rfl (Qt.move rfl) ?_
   refine LW.q rfl (Qt.add rfl rfl (wr64 (by omega) (by omega))) ?_
   refine LW.q rfl (Qt.fieldAddr0 (by kernel_rfl) rfl) ?_
   refine LW.e0 rfl (Ef.store1 (by kernel_rfl) rfl rfl rfl (by first | (simp; done) | (simp; omega)) ?_)
   try simp only [List.set_cons_zero, List.set_cons_succ]
   refine LW.done ?_
   refine T.seq ?_
   refine T.region ?_
   first | refine LW.q rfl (Qt.loadAgg [_, _, _, _, _] (by kernel_rfl) rfl ⟨rfl, rfl, rfl, rfl, rfl, trivial⟩) ?_ | refine LW.q rfl (Qt.loadAgg [_, _, _, _, _] (by kernel_rfl) rfl (by exact rdl_flat _ _ _ (by intros; rfl) _ (by omega))) ?_
   refine LW.e0 rfl (Ef.store [_, _, _, _, _] (by kernel_rfl) rfl rfl rfl rfl (by simp) ?_)
   try simp only [splice, List.length_cons, List.length_nil, List.drop_succ_cons, List.cons_append, List.take_succ_cons, List.take_zero, List.drop_zero, List.nil_append, List.append_nil]
   refine LW.done ?_
   refine T.ret ?_
   exact ⟨.inl rfl, _, _, res [_] rfl ⟨rvA [_, _, _, _, _] (by kernel_rfl) rfl ⟨rfl, rfl, rfl, rfl, rfl, trivial⟩, trivial⟩, ⟨by unfold tickZ; rw [if_pos h1, show m.now + min n (1099511627776 - m.now) = m.now + n by omega]; rfl, rfl⟩, Sub.any⟩
 ·
  try replace h1 := of_decide_eq_false h1
  refine LW.s rfl ?_
  refine LW.s rfl ?_
  refine LW.s rfl ?_
  refine LW.s rfl ?_
  refine LW.s rfl ?_
  refine LW.q rfl (Qt.pick rfl rfl) ?_
  refine LW.done ?_
  first | refine T.condF rfl ?_ | refine T.condPF rfl (by omega) ?_ | refine T.condBF rfl (by omega) ?_
  refine T.seq ?_
  refine T.region ?_
  refine LW.q rfl (Qt.move rfl) ?_
  refine LW.q rfl (Qt.gtr rfl rfl) ?_
  refine LW.done ?_
  first | refine T.condF rfl ?_ | refine T.condPF rfl (by omega) ?_ | refine T.condBF rfl (by omega) ?_
  refine T.skip ?_
  refine T.seq ?_
  refine T.region ?_
  first | refine LW.q rfl (Qt.loadAgg [_, _, _, _, _] (by kernel_rfl) rfl ⟨rfl, rfl, rfl, rfl, rfl, trivial⟩) ?_ | refine LW.q rfl (Qt.loadAgg [_, _, _, _, _] (by kernel_rfl) rfl (by exact rdl_flat _ _ _ (by intros; rfl) _ (by omega))) ?_
  refine LW.e0 rfl (Ef.store [_, _, _, _, _] (by kernel_rfl) rfl rfl rfl rfl (by simp) ?_)
  try simp only [splice, List.length_cons, List.length_nil, List.drop_succ_cons, List.cons_append, List.take_succ_cons, List.take_zero, List.drop_zero, List.nil_append, List.append_nil]
  refine LW.done ?_
  refine T.ret ?_
  exact ⟨.inl rfl, _, _, res [_] rfl ⟨rvA [_, _, _, _, _] (by kernel_rfl) rfl ⟨rfl, rfl, rfl, rfl, rfl, trivial⟩, trivial⟩, ⟨by unfold tickZ; rw [if_neg h1]; rfl, rfl⟩, Sub.any⟩
def findR (T : List Rt) (t : Int) : Int := match T.findIdx? fun x => decide (x.id = t) with
  | none => -1
  | some i => i
theorem Mw.find (B : Base) (m : Rm) (pt : Option Addr) (nt ct : Nat) (ph : Option Addr) (nh ch : Nat) (t : Int) (hT : m.T.length = nt) (hn : nt < 2 ^ 32) : Fn Try.prog B 30 #[rmV m pt nt ct ph nh ch, .int .i64 t] [rtR pt nt ct m.T] (fun u l => u = .int .i64 (findR m.T t) ∧ l = [rtR pt nt ct m.T]) := by
 refine Fn.enter2 22 Try.func30 rfl rfl (Nat.le_of_ble_eq_true rfl) (fun F => ?_)
 try simp only [List.cons_append, List.nil_append]
 refine T.seq ?_
 refine T.region ?_
 refine LW.e rfl (Ef.box [_, _, _, _, _] rfl rfl ?_)
 intro g2
 refine LW.q rfl (Qt.assign rfl) ?_
 refine LW.done ?_
 refine T.seq ?_
 refine T.seq ?_
 refine T.region ?_
 refine LW.q rfl (Qt.assign rfl) ?_
 refine LW.done ?_
 refine T.block ?_
 refine T.loop (fun mz fz lz => ∃ (f0 : Fr) (k : Nat), (k ≤ nt ∧ ∀ x ∈ m.T.take k, x.id ≠ t) ∧ mz = nt - k ∧ fz = (upd (upd (upd f0 1 (.int .i64 t)) 2 (.pointer (some ⟨g2, 0, none⟩))) 5 (.int .i64 k)) ∧ lz = blk g2 (rmL m pt nt ct ph nh ch) 55 :: rtR pt nt ct m.T :: F) ?_ ?_
 · refine ⟨_, _, ⟨_, 0, ⟨Nat.zero_le _, by simp⟩, rfl, (updS rfl (updS rfl (updS rfl rfl))), rfl⟩, Sub.any⟩
 ·
  rintro mz fz lz ⟨f0, k, ⟨hk, hno⟩, hmz, rfl, rfl⟩
  subst mz
  try simp only [List.cons_append, List.nil_append]
  refine T.seq ?_
  refine T.seq ?_
  refine T.region ?_
  refine LW.q rfl (Qt.move rfl) ?_
  refine LW.q rfl (Qt.fieldAddr (off := 3) (by kernel_rfl) rfl) ?_
  first | refine LW.q rfl (Qt.load (by kernel_rfl) rfl rfl) ?_ | refine LW.q rfl (Qt.load (by kernel_rfl) rfl (map_at _ _ _ (by omega))) ?_ | refine LW.q rfl (Qt.load (by kernel_rfl) rfl (flat_cell0 _ _ _ (by intros; rfl) _ (by omega) (by rfl))) ?_ | refine LW.q rfl (Qt.load (by kernel_rfl) rfl (flat_cell _ _ _ (by intros; rfl) _ _ (by omega) (by rfl))) ?_ | refine LW.q rfl (Qt.load (by kernel_rfl) rfl (bytes_at _ _ (by omega))) ?_
  refine LW.q rfl (Qt.len (e := 60) (sz := 3) (by kernel_rfl) rfl) ?_
  refine LW.q rfl (Qt.lss rfl rfl) ?_
  refine LW.done ?_
  refine T.condP rfl (fun hlt => ?_) (fun hlt => ?_)
  ·
   refine T.own (fun w ho => ?_)
   obtain ⟨gt, rfl⟩ : ∃ g, pt = some ⟨g, 0, none⟩ := (ho.slice_at (p := pt) (m := nt) (c := ct)).2.1 (by omega)
   clear ho
   obtain ⟨x, hx⟩ : ∃ x, m.T[k]? = some x := ⟨_, List.getElem?_eq_getElem (by omega)⟩
   refine T.skip ?_
   refine T.seq ?_
   refine T.block ?_
   refine T.seq ?_
   refine T.region ?_
   refine LW.q rfl (Qt.fieldAddr (off := 3) (by kernel_rfl) rfl) ?_
   first | refine LW.q rfl (Qt.load (by kernel_rfl) rfl rfl) ?_ | refine LW.q rfl (Qt.load (by kernel_rfl) rfl (map_at _ _ _ (by omega))) ?_ | refine LW.q rfl (Qt.load (by kernel_rfl) rfl (flat_cell0 _ _ _ (by intros; rfl) _ (by omega) (by rfl))) ?_ | refine LW.q rfl (Qt.load (by kernel_rfl) rfl (flat_cell _ _ _ (by intros; rfl) _ _ (by omega) (by rfl))) ?_ | refine LW.q rfl (Qt.load (by kernel_rfl) rfl (bytes_at _ _ (by omega))) ?_
   refine LW.q rfl (Qt.move rfl) ?_
   refine LW.q rfl (Qt.index _ (e := 60) (sz := 3) (by kernel_rfl) rfl rfl rfl (by omega)) ?_
   refine LW.q rfl (Qt.fieldAddr0 (by kernel_rfl) rfl) ?_
   refine LW.q rfl (Qt.load (v := .int .i64 x.id) (by kernel_rfl) rfl (by have := flat3 rtC (fun _ => rfl) hx 0 (by omega); simpa using this)) ?_
   refine LW.q rfl (Qt.move rfl) ?_
   refine LW.q rfl (Qt.eql rfl rfl) ?_
   refine LW.done ?_
   refine T.condP rfl (fun he => ?_) (fun he => ?_)
   ·
    have hr : findR m.T t = k := by
     unfold findR
     rw [show m.T.findIdx? (fun x => decide (x.id = t)) = some k from List.findIdx?_eq_some_iff_getElem.2 ⟨by omega, by rw [List.getElem?_eq_getElem (by omega)] at hx; rw [Option.some.inj hx]; simpa using he, fun j hj => by simpa using hno _ (List.mem_take_iff_getElem.2 ⟨j, by omega, rfl⟩)⟩]
    refine T.seq ?_
    refine T.region ?_
    refine LW.q rfl (Qt.move rfl) ?_
    refine LW.q rfl (Qt.assign rfl) ?_
    refine LW.done ?_
    refine T.ret ?_
    exact ⟨.inl rfl, _, _, res [_] rfl ⟨rvT rfl, trivial⟩, ⟨by rw [hr]; rfl, rfl⟩, Sub.any⟩
   ·
    refine T.skip ?_
    refine T.region ?_
    refine LW.q rfl (Qt.move rfl) ?_
    refine LW.q rfl (Qt.add rfl rfl (wr64 (by omega) (by omega))) ?_
    refine LW.q rfl (Qt.assign rfl) ?_
    refine LW.done ?_
    refine ⟨_, ?_, _, ⟨_, k + 1, ⟨by omega, fun y hy => by rw [List.take_add_one, hx] at hy; rcases List.mem_append.1 hy with h | h; exact hno y h; simp at h; rw [h]; exact he⟩, rfl, (updS rfl (updS rfl (updS rfl rfl))), rfl⟩, Sub.any⟩
    first | omega | (simp; omega)
  ·
   obtain rfl : nt = k := by omega
   have hr : findR m.T t = -1 := by
    unfold findR
    rw [List.findIdx?_eq_none_iff.2 fun x hx => by rw [← hT, List.take_length] at hno; simpa using hno x hx]
   refine T.exit ?_
   refine T.seq ?_
   refine T.region ?_
   refine LW.q rfl (Qt.assign rfl) ?_
   refine LW.done ?_
   refine T.ret ?_
   exact ⟨.inl rfl, _, _, res [_] rfl ⟨rvT rfl, trivial⟩, ⟨by rw [hr]; rfl, rfl⟩, Sub.any⟩
theorem flat_append {α : Type} (g : α → List Value) (a b : List α) : a.flatMap g ++ b.flatMap g = (a ++ b).flatMap g := by simp
theorem Mw.begin (B : Base) (m : Rm) (pt : Option Addr) (nt ct : Nat) (ph : Option Addr) (nh ch : Nat) (hT : m.T.length = nt) (hn : nt < 2 ^ 32) (hb : 0 ≤ m.begun ∧ m.begun < 2 ^ 63 - 1) : Fn Try.prog B 24 #[rmV m pt nt ct ph nh ch] [rtR pt nt ct m.T] (fun u l => ∃ p c, u = rmV { m with begun := m.begun + 1, T := m.T ++ [⟨m.begun + 1, m.last, ⟨none, 0, []⟩⟩] } p (nt + 1) c ph nh ch ∧ l = [rtR p (nt + 1) c (m.T ++ [⟨m.begun + 1, m.last, ⟨none, 0, []⟩⟩])]) := by
  refine Fn.enter1 22 Try.func24 rfl rfl (Nat.le_of_ble_eq_true rfl) (fun F => ?_)
  try simp only [List.cons_append, List.nil_append]
  refine T.seq ?_
  refine T.region ?_
  refine LW.e rfl (Ef.box [_, _, _, _, _] rfl rfl ?_)
  intro g1
  refine LW.e rfl (Ef.alloc [.int .i64 0, .int .i64 0, .int .i64 0, .slice none 0 0, .slice none 0 0] (by unfold zeroB; kernel_rfl) ?_)
  intro g2
  refine LW.done ?_
  refine T.seq ?_
  refine T.region ?_
  refine LW.q rfl (Qt.fieldAddr (off := 2) (by kernel_rfl) rfl) ?_
  first | refine LW.q rfl (Qt.load (by kernel_rfl) rfl rfl) ?_ | refine LW.q rfl (Qt.load (by kernel_rfl) rfl (map_at _ _ _ (by omega))) ?_ | refine LW.q rfl (Qt.load (by kernel_rfl) rfl (flat_cell0 _ _ _ (by intros; rfl) _ (by omega) (by rfl))) ?_ | refine LW.q rfl (Qt.load (by kernel_rfl) rfl (flat_cell _ _ _ (by intros; rfl) _ _ (by omega) (by rfl))) ?_ | refine LW.q rfl (Qt.load (by kernel_rfl) rfl (bytes_at _ _ (by omega))) ?_
  refine LW.q rfl (Qt.add rfl rfl (wr64 (by omega) (by omega))) ?_
  refine LW.q rfl (Qt.fieldAddr (off := 2) (by kernel_rfl) rfl) ?_
  refine LW.e0 rfl (Ef.store1 (by kernel_rfl) rfl rfl rfl (by first | (simp; done) | (simp; omega)) ?_)
  try simp only [List.set_cons_zero, List.set_cons_succ]
  refine LW.done ?_
  refine T.seq ?_
  refine T.region ?_
  refine LW.e rfl (Ef.empty Mw.elemT ?_)
  rintro g8
  try simp only [List.cons_append, List.nil_append]
  refine LW.q rfl (Qt.fieldAddr (off := 3) (by kernel_rfl) rfl) ?_
  first | refine LW.q rfl (Qt.load (by kernel_rfl) rfl rfl) ?_ | refine LW.q rfl (Qt.load (by kernel_rfl) rfl (map_at _ _ _ (by omega))) ?_ | refine LW.q rfl (Qt.load (by kernel_rfl) rfl (flat_cell0 _ _ _ (by intros; rfl) _ (by omega) (by rfl))) ?_ | refine LW.q rfl (Qt.load (by kernel_rfl) rfl (flat_cell _ _ _ (by intros; rfl) _ _ (by omega) (by rfl))) ?_ | refine LW.q rfl (Qt.load (by kernel_rfl) rfl (bytes_at _ _ (by omega))) ?_
  refine LW.e rfl (Ef.append Mw.elemT rfl rfl (SrcOf.row (by kernel_rfl) one_rt) (by unfold maxLen; omega) (by omega) ?_)
  rintro p1 c1 hp1
  try simp only [List.cons_append, List.nil_append]
  simp only [Nat.zero_add, List.nil_append]
  refine LW.q rfl (Qt.assign rfl) ?_
  refine LW.done ?_
  refine T.seq ?_
  refine T.region ?_
  refine LW.q rfl (Qt.move rfl) ?_
  refine LW.q rfl (Qt.fieldAddr (off := 2) (by kernel_rfl) rfl) ?_
  first | refine LW.q rfl (Qt.load (by kernel_rfl) rfl rfl) ?_ | refine LW.q rfl (Qt.load (by kernel_rfl) rfl (map_at _ _ _ (by omega))) ?_ | refine LW.q rfl (Qt.load (by kernel_rfl) rfl (flat_cell0 _ _ _ (by intros; rfl) _ (by omega) (by rfl))) ?_ | refine LW.q rfl (Qt.load (by kernel_rfl) rfl (flat_cell _ _ _ (by intros; rfl) _ _ (by omega) (by rfl))) ?_ | refine LW.q rfl (Qt.load (by kernel_rfl) rfl (bytes_at _ _ (by omega))) ?_
  refine LW.q rfl (Qt.fieldAddr (off := 1) (by kernel_rfl) rfl) ?_
  first | refine LW.q rfl (Qt.load (by kernel_rfl) rfl rfl) ?_ | refine LW.q rfl (Qt.load (by kernel_rfl) rfl (map_at _ _ _ (by omega))) ?_ | refine LW.q rfl (Qt.load (by kernel_rfl) rfl (flat_cell0 _ _ _ (by intros; rfl) _ (by omega) (by rfl))) ?_ | refine LW.q rfl (Qt.load (by kernel_rfl) rfl (flat_cell _ _ _ (by intros; rfl) _ _ (by omega) (by rfl))) ?_ | refine LW.q rfl (Qt.load (by kernel_rfl) rfl (bytes_at _ _ (by omega))) ?_
  refine LW.q rfl (Qt.build [(0, 1), (1, 1), (2, 1)] [.int .i64 0, .int .i64 0, .slice none 0 0] [_, _, _] [(0, _), (1, _)] (by kernel_rfl) (by unfold zeroB; kernel_rfl) rfl rfl) ?_
  refine LW.e rfl (Ef.one [_, _, _] (e := 60) (sz := 3) (by kernel_rfl) ⟨.agg #[.int .i64 0, .int .i64 0, .slice none 0 0], by kernel_rfl, rfl⟩ rfl rfl rfl (by omega) (by omega) ?_)
  intro g18
  refine LW.e rfl (Ef.append Mw.elemT rfl rfl (SrcOf.blk (by kernel_rfl) rfl (by simp [Value.oneCell'])) (by unfold maxLen; omega) (by omega) ?_)
  rintro p2 c2 hp2
  try simp only [List.cons_append, List.nil_append]
  rw [show m.T.flatMap rtC ++ [Value.int .i64 (m.begun + 1), Value.int .i64 m.last, Value.slice none 0 0] = (m.T ++ [(⟨m.begun + 1, m.last, ⟨none, 0, []⟩⟩ : Rt)]).flatMap rtC by simp]
  refine LW.q rfl (Qt.fieldAddr (off := 3) (by kernel_rfl) rfl) ?_
  refine LW.e0 rfl (Ef.store1 (by kernel_rfl) rfl rfl rfl (by first | (simp; done) | (simp; omega)) ?_)
  try simp only [List.set_cons_zero, List.set_cons_succ]
  refine LW.done ?_
  refine T.seq ?_
  refine T.region ?_
  first | refine LW.q rfl (Qt.loadAgg [_, _, _, _, _] (by kernel_rfl) rfl ⟨rfl, rfl, rfl, rfl, rfl, trivial⟩) ?_ | refine LW.q rfl (Qt.loadAgg [_, _, _, _, _] (by kernel_rfl) rfl (by exact rdl_flat _ _ _ (by intros; rfl) _ (by omega))) ?_
  refine LW.e0 rfl (Ef.store [_, _, _, _, _] (by kernel_rfl) rfl rfl rfl rfl (by simp) ?_)
  try simp only [splice, List.length_cons, List.length_nil, List.drop_succ_cons, List.cons_append, List.take_succ_cons, List.take_zero, List.drop_zero, List.nil_append, List.append_nil]
  refine LW.done ?_
  refine T.ret ?_
  exact ⟨.inl rfl, _, _, res [_] rfl ⟨rvA [_, _, _, _, _] (by kernel_rfl) rfl ⟨rfl, rfl, rfl, rfl, rfl, trivial⟩, trivial⟩, ⟨p2, c2, rfl, rfl⟩, Sub.any⟩
end Go.Proofs.Ytgfbjabjkjbnlaa

/- The document's manager (annalsref12): Write, Without, shares, Check, Commit. Conditions: sizes; that what is handed in can be read. -/
set_option linter.unusedSimpArgs false
set_option linter.unusedVariables false
namespace Go.Proofs.Ytgfbjabjkjbnlaa
open Go.RowKit

theorem findR_some {T : List Rt} {t : Int} (h : ¬ findR T t < 0) : ∃ (i : Nat) (x : Rt), findR T t = i ∧ T[i]? = some x ∧ x.id = t := by
  unfold findR at h ⊢
  split at h
  · omega
  · rename_i i hi
    obtain ⟨hl, h1, _⟩ := List.findIdx?_eq_some_iff_getElem.1 hi
    exact ⟨i, T[i], rfl, List.getElem?_eq_getElem hl, of_decide_eq_true h1⟩
/-- What Write leaves: the transaction's keys are others, and lie in the pool. -/
def rWrite (m : Rm) (Q : List Kq) (t : Int) (ks : List Str) (m' : Rm) (Q' : List Kq) : Prop := if findR m.T t < 0 then m' = m ∧ Q' = Q else ∃ i x q, findR m.T t = (i : Nat) ∧ m.T[i]? = some x ∧ q.ks = x.q.ks ++ ks ∧ InQ Q' q ∧ m' = { m with T := m.T.set i { x with q := q } } ∧ Q' = Q ++ [q]
set_option maxHeartbeats 2000000 in
theorem Mw.write (B : Base) (S : List Assn) (m : Rm) (Q : List Kq) (pt : Option Addr) (nt ct : Nat) (ph : Option Addr) (nh ch : Nat) (t : Int) (a : Option Addr) (n c : Nat) (ks : List Str) (hv : RdV B S (.slice a n c) (ks.map kT)) (hks : ks.length = n) (hn2 : n < 2 ^ 32) (hT : m.T.length = nt) (hn : nt < 2 ^ 32) (hQ : ∀ x ∈ m.T, InQ Q x.q ∧ x.q.ks.length < 2 ^ 32) :
    Fn Try.prog B 25 #[rmV m pt nt ct ph nh ch, .int .i64 t, .slice a n c] (rtR pt nt ct m.T :: poS Q :: S) (fun u l => ∃ m' Q' p' c', rWrite m Q t ks m' Q' ∧ u = .tuple #[rmV m' p' nt c' ph nh ch, .int .i64 (if findR m.T t < 0 then 70 else 0)] ∧ l = rtR p' nt c' m'.T :: poS Q' :: S) := by
  by_cases hneg : findR m.T t < 0
  · skip
    refine Fn.enter3 38 Try.func25 rfl rfl (Nat.le_of_ble_eq_true rfl) (fun F => ?_)
    try simp only [List.cons_append, List.nil_append]
    refine T.seq ?_
    refine T.region ?_
    refine LW.e rfl (Ef.box [_, _, _, _, _] rfl rfl ?_)
    intro g3
    refine LW.e rfl (Ef.alloc [.int .i64 0, .int .i64 0, .int .i64 0, .slice none 0 0, .slice none 0 0] (by unfold zeroB; kernel_rfl) ?_)
    intro g6
    refine LW.q rfl (Qt.assign rfl) ?_
    refine LW.done ?_
    refine T.seq ?_
    refine T.region ?_
    first | refine LW.q rfl (Qt.loadAgg [_, _, _, _, _] (by kernel_rfl) rfl ⟨rfl, rfl, rfl, rfl, rfl, trivial⟩) ?_ | refine LW.q rfl (Qt.loadAgg [_, _, _, _, _] (by kernel_rfl) rfl (by exact rdl_flat _ _ _ (by intros; rfl) _ (by omega))) ?_
    refine LW.q rfl (Qt.move rfl) ?_
    refine LW.e rfl (Ef.call (Mw.find B m pt nt ct ph nh ch t hT hn) Try.func30 rfl rfl rfl ?_)
    rintro _ _ ⟨rfl, rfl⟩
    try simp only [List.cons_append, List.nil_append]
    refine LW.q rfl (Qt.assign rfl) ?_
    refine LW.done ?_
    refine T.seq ?_
    refine T.seq ?_
    refine T.region ?_
    refine LW.q rfl (Qt.move rfl) ?_
    refine LW.q rfl (Qt.lss rfl rfl) ?_
    refine LW.done ?_
    first | refine T.condT rfl ?_ | refine T.condPT rfl (by omega) ?_ | refine T.condBT rfl (by omega) ?_
    refine T.seq ?_
    refine T.region ?_
    first | refine LW.q rfl (Qt.loadAgg [_, _, _, _, _] (by kernel_rfl) rfl ⟨rfl, rfl, rfl, rfl, rfl, trivial⟩) ?_ | refine LW.q rfl (Qt.loadAgg [_, _, _, _, _] (by kernel_rfl) rfl (by exact rdl_flat _ _ _ (by intros; rfl) _ (by omega))) ?_
    refine LW.e0 rfl (Ef.store [_, _, _, _, _] (by kernel_rfl) rfl rfl rfl rfl (by simp) ?_)
    try simp only [splice, List.length_cons, List.length_nil, List.drop_succ_cons, List.cons_append, List.take_succ_cons, List.take_zero, List.drop_zero, List.nil_append, List.append_nil]
    refine LW.q rfl (Qt.assign rfl) ?_
    refine LW.done ?_
    refine T.ret ?_
    exact ⟨.inl rfl, _, _, res [_, _] rfl ⟨rvA [_, _, _, _, _] (by kernel_rfl) rfl ⟨rfl, rfl, rfl, rfl, rfl, trivial⟩, rvT rfl, trivial⟩, ⟨m, Q, pt, ct, by unfold rWrite; rw [if_pos hneg]; exact ⟨rfl, rfl⟩, by rw [if_pos hneg]; rfl, rfl⟩, Sub.any⟩
  · obtain ⟨i, x, hfi, hx, hxt⟩ := findR_some hneg
    have hil := (List.getElem?_eq_some_iff.1 hx).1
    obtain ⟨hq1, hq2⟩ := hQ x (List.mem_of_getElem? hx)
    have hfl := flat3_len rtC (fun _ => rfl) m.T
    refine Fn.enter3 38 Try.func25 rfl rfl (Nat.le_of_ble_eq_true rfl) (fun F => ?_)
    try simp only [List.cons_append, List.nil_append]
    refine T.seq ?_
    refine T.region ?_
    refine LW.e rfl (Ef.box [_, _, _, _, _] rfl rfl ?_)
    intro g3
    refine LW.e rfl (Ef.alloc [.int .i64 0, .int .i64 0, .int .i64 0, .slice none 0 0, .slice none 0 0] (by unfold zeroB; kernel_rfl) ?_)
    intro g6
    refine LW.q rfl (Qt.assign rfl) ?_
    refine LW.done ?_
    refine T.seq ?_
    refine T.region ?_
    first | refine LW.q rfl (Qt.loadAgg [_, _, _, _, _] (by kernel_rfl) rfl ⟨rfl, rfl, rfl, rfl, rfl, trivial⟩) ?_ | refine LW.q rfl (Qt.loadAgg [_, _, _, _, _] (by kernel_rfl) rfl (by exact rdl_flat _ _ _ (by intros; rfl) _ (by omega))) ?_
    refine LW.q rfl (Qt.move rfl) ?_
    refine LW.e rfl (Ef.call (Mw.find B m pt nt ct ph nh ch t hT hn) Try.func30 rfl rfl rfl ?_)
    rintro _ _ ⟨rfl, rfl⟩
    try simp only [List.cons_append, List.nil_append]
    refine LW.q rfl (Qt.assign rfl) ?_
    refine LW.done ?_
    refine T.seq ?_
    refine T.seq ?_
    refine T.region ?_
    refine LW.q rfl (Qt.move rfl) ?_
    refine LW.q rfl (Qt.lss rfl rfl) ?_
    refine LW.done ?_
    first | refine T.condF rfl ?_ | refine T.condPF rfl (by omega) ?_ | refine T.condBF rfl (by omega) ?_
    refine T.skip ?_
    refine T.seq ?_
    refine T.region ?_
    refine LW.e rfl (Ef.empty Mw.elemT ?_)
    rintro g17
    try simp only [List.cons_append, List.nil_append]
    refine LW.q rfl (Qt.fieldAddr (off := 3) (by kernel_rfl) rfl) ?_
    first | refine LW.q rfl (Qt.load (by kernel_rfl) rfl rfl) ?_ | refine LW.q rfl (Qt.load (by kernel_rfl) rfl (map_at _ _ _ (by omega))) ?_ | refine LW.q rfl (Qt.load (by kernel_rfl) rfl (flat_cell0 _ _ _ (by intros; rfl) _ (by omega) (by rfl))) ?_ | refine LW.q rfl (Qt.load (by kernel_rfl) rfl (flat_cell _ _ _ (by intros; rfl) _ _ (by omega) (by rfl))) ?_ | refine LW.q rfl (Qt.load (by kernel_rfl) rfl (bytes_at _ _ (by omega))) ?_
    refine LW.e rfl (Ef.append Mw.elemT rfl rfl (SrcOf.row (by kernel_rfl) one_rt) (by unfold maxLen; omega) (by omega) ?_)
    rintro p1 c1 hp1
    try simp only [List.cons_append, List.nil_append]
    simp only [Nat.zero_add, List.nil_append] at hp1 ⊢
    obtain ⟨g1, rfl⟩ := hp1 (by omega)
    refine LW.q rfl (Qt.assign rfl) ?_
    refine LW.done ?_
    refine T.seq ?_
    refine T.region ?_
    refine LW.e rfl (Ef.empty Mw.elemS ?_)
    rintro g21
    try simp only [List.cons_append, List.nil_append]
    refine LW.q rfl (Qt.move rfl) ?_
    refine LW.q rfl (Qt.move rfl) ?_
    refine LW.q rfl (Qt.index i (e := 60) (sz := 3) (by kernel_rfl) rfl rfl hfi (by omega)) ?_
    refine LW.q rfl (Qt.fieldAddr (off := 2) (by kernel_rfl) rfl) ?_
    refine LW.q rfl (Qt.load (v := kqV x.q) (by kernel_rfl) rfl (flat3 rtC (fun _ => rfl) hx 2 (by omega))) ?_
    refine LW.e rfl (Ef.append Mw.elemS rfl rfl (SrcOf.rd (m := x.q.ks.length) ((RdV.pool hq1).mono (fun w ho => ho.map Sub.any)) (by kernel_rfl) (by simp) one_kT) (by unfold maxLen; omega) (by omega) ?_)
    rintro p2 c2 hp2
    try simp only [List.cons_append, List.nil_append]
    simp only [Nat.zero_add, List.nil_append] at hp2 ⊢
    refine LW.q rfl (Qt.assign rfl) ?_
    refine LW.done ?_
    refine T.seq ?_
    refine T.region ?_
    refine LW.q rfl (Qt.move rfl) ?_
    refine LW.q rfl (Qt.move rfl) ?_
    refine LW.q rfl (Qt.move rfl) ?_
    refine LW.q rfl (Qt.move rfl) ?_
    refine LW.e rfl (Ef.append Mw.elemS rfl rfl (SrcOf.rd (m := n) (hv.mono (fun w ho => ho.map Sub.any)) (by kernel_rfl) (by simp [hks]) one_kT) (by unfold maxLen; omega) (by omega) ?_)
    rintro p3 c3 hp3
    try simp only [List.cons_append, List.nil_append]
    rw [← List.map_append, show x.q.ks.length + n = (x.q.ks ++ ks).length by simp [hks]]
    rw [show x.q.ks.length + n = (x.q.ks ++ ks).length by simp [hks]] at hp3
    refine LW.q rfl (Qt.index i (e := 60) (sz := 3) (by kernel_rfl) rfl rfl hfi (by omega)) ?_
    refine LW.q rfl (Qt.fieldAddr (off := 2) (by kernel_rfl) rfl) ?_
    refine LW.e0 rfl (Ef.store1 (by kernel_rfl) rfl rfl rfl (by rw [hfl]; omega) ?_)
    rw [flat3_set rtC (fun _ => rfl) (y := { x with q := ⟨p3, c3, x.q.ks ++ ks⟩ }) hx 2 (by omega) (.slice p3 (x.q.ks ++ ks).length c3) rfl]
    refine LW.done ?_
    refine T.seq ?_
    refine T.region ?_
    refine LW.q rfl (Qt.move rfl) ?_
    refine LW.q rfl (Qt.fieldAddr (off := 3) (by kernel_rfl) rfl) ?_
    refine LW.e0 rfl (Ef.store1 (by kernel_rfl) rfl rfl rfl (by first | (simp; done) | (simp; omega)) ?_)
    try simp only [List.set_cons_zero, List.set_cons_succ]
    refine LW.done ?_
    refine T.seq ?_
    refine T.region ?_
    first | refine LW.q rfl (Qt.loadAgg [_, _, _, _, _] (by kernel_rfl) rfl ⟨rfl, rfl, rfl, rfl, rfl, trivial⟩) ?_ | refine LW.q rfl (Qt.loadAgg [_, _, _, _, _] (by kernel_rfl) rfl (by exact rdl_flat _ _ _ (by intros; rfl) _ (by omega))) ?_
    refine LW.e0 rfl (Ef.store [_, _, _, _, _] (by kernel_rfl) rfl rfl rfl rfl (by simp) ?_)
    try simp only [splice, List.length_cons, List.length_nil, List.drop_succ_cons, List.cons_append, List.take_succ_cons, List.take_zero, List.drop_zero, List.nil_append, List.append_nil]
    refine LW.q rfl (Qt.assign rfl) ?_
    refine LW.done ?_
    refine T.conv (fun w ho => Own.po_push (Q := Q) ⟨p3, c3, x.q.ks ++ ks⟩ ho) ?_
    refine T.ret ?_
    exact ⟨.inl rfl, _, _, res [_, _] rfl ⟨rvA [_, _, _, _, _] (by kernel_rfl) rfl ⟨rfl, rfl, rfl, rfl, rfl, trivial⟩, rvT rfl, trivial⟩, ⟨{ m with T := m.T.set i { x with q := ⟨p3, c3, x.q.ks ++ ks⟩ } }, Q ++ [⟨p3, c3, x.q.ks ++ ks⟩], some ⟨g1, 0, none⟩, c1, by unfold rWrite; rw [if_neg hneg]; exact ⟨i, x, ⟨p3, c3, x.q.ks ++ ks⟩, hfi, hx, rfl, .inr ⟨by simp, hp3⟩, rfl, rfl⟩, by rw [if_neg hneg]; rfl, rfl⟩, Sub.any⟩
theorem SrcOf.tail {P : Program} {B : Base} {l : List Assn} {tx sz g m c lo cap : Nat} {C : List Value} [k : Rd B g l C] (hk : sliceZ P tx sz = true) (hl : C.length = m * sz) (hlo : lo ≤ m) (hc : m ≤ c) (h1 : ∀ x ∈ C, x.oneCell' = true) : SrcOf P B l sz tx (.slice (offA (some ⟨g, 0, none⟩) c lo sz) (m - lo) cap) (m - lo) (C.drop (lo * sz)) := by
  have h2 : ∀ x ∈ C.drop (lo * sz), x.oneCell' = true := fun x hx => h1 x (List.mem_of_mem_drop hx)
  have h3 : (C.drop (lo * sz)).length = (m - lo) * sz := by rw [List.length_drop, hl, Nat.sub_mul]
  by_cases e : c = lo
  · have : offA (some ⟨g, 0, none⟩) c lo sz = some ⟨g, 0, none⟩ := by unfold offA; rw [if_pos e]
    rw [this]
    obtain rfl : m = lo := by omega
    refine SrcOf.cells (g := g) (o := 0) hk (fun j v h => ?_) h3 h2
    have : C.drop (m * sz) = [] := by rw [List.drop_eq_nil_iff]; omega
    rw [this] at h; simp at h
  · rw [offA_some e]
    refine SrcOf.cells (g := g) (o := 0 + lo * sz) hk (fun j v h => ?_) h3 h2
    rw [List.getElem?_drop] at h
    rw [Nat.zero_add]; exact h
theorem SrcOf.head {P : Program} {B : Base} {l : List Assn} {tx sz g m hi cap : Nat} {C : List Value} [k : Rd B g l C] (hk : sliceZ P tx sz = true) (hl : C.length = m * sz) (hhi : hi ≤ m) (h1 : ∀ x ∈ C, x.oneCell' = true) : SrcOf P B l sz tx (.slice (some ⟨g, 0, none⟩) hi cap) hi (C.take (hi * sz)) := by
  refine SrcOf.cells (g := g) (o := 0) hk (fun j v h => ?_) ?_ (fun x hx => h1 x (List.mem_of_mem_take hx))
  · rw [List.getElem?_take] at h
    split at h
    · rw [Nat.zero_add]; exact h
    · cases h
  · rw [List.length_take, hl]
    exact Nat.min_eq_left (Nat.mul_le_mul_right _ hhi)
theorem flat3_take {α : Type} (g : α → List Value) (hg : ∀ x, (g x).length = 3) : ∀ (T : List α) (i : Nat), (T.flatMap g).take (i * 3) = (T.take i).flatMap g
  | [], i => by simp
  | a :: T, 0 => by simp
  | a :: T, i + 1 => by
    rw [List.flatMap_cons, List.take_succ_cons, List.flatMap_cons, ← flat3_take g hg T i, List.take_append, hg, List.take_of_length_le (by rw [hg]; omega)]
    congr 2
    omega
theorem flat3_drop {α : Type} (g : α → List Value) (hg : ∀ x, (g x).length = 3) : ∀ (T : List α) (i : Nat), (T.flatMap g).drop (i * 3) = (T.drop i).flatMap g
  | [], i => by simp
  | a :: T, 0 => by simp
  | a :: T, i + 1 => by
    rw [List.flatMap_cons, List.drop_succ_cons, ← flat3_drop g hg T i, List.drop_append, hg, List.drop_of_length_le (by rw [hg]; omega), List.nil_append]
    congr 1
    omega
theorem Mw.without (B : Base) (m : Rm) (pt : Option Addr) (nt ct : Nat) (ph : Option Addr) (nh ch : Nat) (t : Int) (hT : m.T.length = nt) (hn : nt < 2 ^ 32) (i : Nat) (hfi : findR m.T t = (i : Nat)) (hil : i < nt) : Fn Try.prog B 28 #[rmV m pt nt ct ph nh ch, .int .i64 t] [rtR pt nt ct m.T] (fun u l => ∃ p c n', n' + 1 = nt ∧ u = .tuple #[rmV m p n' c ph nh ch, .int .i64 0] ∧ l = [rtR p n' c (m.T.eraseIdx i), rtR pt nt ct m.T]) := by
  refine Fn.enter2 29 Try.func28 rfl rfl (Nat.le_of_ble_eq_true rfl) (fun F => ?_)
  try simp only [List.cons_append, List.nil_append]
  refine T.seq ?_
  refine T.region ?_
  refine LW.e rfl (Ef.box [_, _, _, _, _] rfl rfl ?_)
  intro g2
  refine LW.e rfl (Ef.alloc [.int .i64 0, .int .i64 0, .int .i64 0, .slice none 0 0, .slice none 0 0] (by unfold zeroB; kernel_rfl) ?_)
  intro g4
  refine LW.q rfl (Qt.assign rfl) ?_
  refine LW.done ?_
  refine T.seq ?_
  refine T.region ?_
  first | refine LW.q rfl (Qt.loadAgg [_, _, _, _, _] (by kernel_rfl) rfl ⟨rfl, rfl, rfl, rfl, rfl, trivial⟩) ?_ | refine LW.q rfl (Qt.loadAgg [_, _, _, _, _] (by kernel_rfl) rfl (by exact rdl_flat _ _ _ (by intros; rfl) _ (by omega))) ?_
  refine LW.q rfl (Qt.move rfl) ?_
  refine LW.e rfl (Ef.call (Mw.find B m pt nt ct ph nh ch t hT hn) Try.func30 rfl rfl rfl ?_)
  rintro _ _ ⟨rfl, rfl⟩
  try simp only [List.cons_append, List.nil_append]
  refine LW.own (fun w ho => ?_)
  obtain ⟨gt, rfl⟩ : ∃ g, pt = some ⟨g, 0, none⟩ := (ho.slice_at (p := pt) (m := nt) (c := ct)).2.1 (by omega)
  have hcap := ho.cap_at (p := some ⟨gt, 0, none⟩) (m := nt) (c := ct)
  clear ho
  rw [hfi]
  refine LW.q rfl (Qt.assign rfl) ?_
  refine LW.done ?_
  refine T.seq ?_
  refine T.seq ?_
  refine T.region ?_
  refine LW.q rfl (Qt.move rfl) ?_
  refine LW.q rfl (Qt.lss rfl rfl) ?_
  refine LW.done ?_
  first | refine T.condF rfl ?_ | refine T.condPF rfl (by omega) ?_ | refine T.condBF rfl (by omega) ?_
  refine T.skip ?_
  refine T.seq ?_
  refine T.region ?_
  refine LW.e rfl (Ef.empty Mw.elemT ?_)
  rintro g14
  try simp only [List.cons_append, List.nil_append]
  refine LW.q rfl (Qt.fieldAddr (off := 3) (by kernel_rfl) rfl) ?_
  first | refine LW.q rfl (Qt.load (by kernel_rfl) rfl rfl) ?_ | refine LW.q rfl (Qt.load (by kernel_rfl) rfl (map_at _ _ _ (by omega))) ?_ | refine LW.q rfl (Qt.load (by kernel_rfl) rfl (flat_cell0 _ _ _ (by intros; rfl) _ (by omega) (by rfl))) ?_ | refine LW.q rfl (Qt.load (by kernel_rfl) rfl (flat_cell _ _ _ (by intros; rfl) _ _ (by omega) (by rfl))) ?_ | refine LW.q rfl (Qt.load (by kernel_rfl) rfl (bytes_at _ _ (by omega))) ?_
  refine LW.q rfl (Qt.move rfl) ?_
  refine LW.q rfl (Qt.slice_nsn i (e := 60) (sz := 3) (by kernel_rfl) rfl rfl rfl (by omega)) ?_
  refine LW.e rfl (Ef.append Mw.elemT rfl rfl (SrcOf.head (by kernel_rfl) (by rw [flat3_len rtC (fun _ => rfl), hT]) (by omega) one_rt) (by unfold maxLen; omega) (by omega) ?_)
  rintro p1 c1 hp1
  try simp only [List.cons_append, List.nil_append]
  simp only [Nat.zero_add, List.nil_append]
  rw [flat3_take rtC (fun _ => rfl)]
  refine LW.q rfl (Qt.assign rfl) ?_
  refine LW.done ?_
  refine T.seq ?_
  refine T.region ?_
  refine LW.q rfl (Qt.move rfl) ?_
  refine LW.q rfl (Qt.fieldAddr (off := 3) (by kernel_rfl) rfl) ?_
  first | refine LW.q rfl (Qt.load (by kernel_rfl) rfl rfl) ?_ | refine LW.q rfl (Qt.load (by kernel_rfl) rfl (map_at _ _ _ (by omega))) ?_ | refine LW.q rfl (Qt.load (by kernel_rfl) rfl (flat_cell0 _ _ _ (by intros; rfl) _ (by omega) (by rfl))) ?_ | refine LW.q rfl (Qt.load (by kernel_rfl) rfl (flat_cell _ _ _ (by intros; rfl) _ _ (by omega) (by rfl))) ?_ | refine LW.q rfl (Qt.load (by kernel_rfl) rfl (bytes_at _ _ (by omega))) ?_
  refine LW.q rfl (Qt.move rfl) ?_
  refine LW.q rfl (Qt.add rfl rfl (wr64 (by omega) (by omega))) ?_
  refine LW.q rfl (Qt.slice_snn (i + 1) (e := 60) (sz := 3) (by kernel_rfl) rfl rfl (by omega) (by omega)) ?_
  refine LW.e rfl (Ef.append Mw.elemT rfl rfl (SrcOf.tail (by kernel_rfl) (by rw [flat3_len rtC (fun _ => rfl), hT]) (by omega) hcap one_rt) (by unfold maxLen; omega) (by omega) ?_)
  rintro p2 c2 hp2
  try simp only [List.cons_append, List.nil_append]
  rw [flat3_drop rtC (fun _ => rfl), flat_append, ← List.eraseIdx_eq_take_drop_succ]
  obtain ⟨n', hn'⟩ : ∃ n', i + (nt - (i + 1)) = n' := ⟨_, rfl⟩
  rw [hn']
  refine LW.q rfl (Qt.fieldAddr (off := 3) (by kernel_rfl) rfl) ?_
  refine LW.e0 rfl (Ef.store1 (by kernel_rfl) rfl rfl rfl (by first | (simp; done) | (simp; omega)) ?_)
  try simp only [List.set_cons_zero, List.set_cons_succ]
  refine LW.done ?_
  refine T.seq ?_
  refine T.region ?_
  first | refine LW.q rfl (Qt.loadAgg [_, _, _, _, _] (by kernel_rfl) rfl ⟨rfl, rfl, rfl, rfl, rfl, trivial⟩) ?_ | refine LW.q rfl (Qt.loadAgg [_, _, _, _, _] (by kernel_rfl) rfl (by exact rdl_flat _ _ _ (by intros; rfl) _ (by omega))) ?_
  refine LW.e0 rfl (Ef.store [_, _, _, _, _] (by kernel_rfl) rfl rfl rfl rfl (by simp) ?_)
  try simp only [splice, List.length_cons, List.length_nil, List.drop_succ_cons, List.cons_append, List.take_succ_cons, List.take_zero, List.drop_zero, List.nil_append, List.append_nil]
  refine LW.q rfl (Qt.assign rfl) ?_
  refine LW.done ?_
  refine T.ret ?_
  exact ⟨.inl rfl, _, _, res [_, _] rfl ⟨rvA [_, _, _, _, _] (by kernel_rfl) rfl ⟨rfl, rfl, rfl, rfl, rfl, trivial⟩, rvT rfl, trivial⟩, ⟨p2, c2, n', by omega, rfl, rfl⟩, Sub.any⟩
/-- Have two lists a key in common? -/
def sharesB (a b : List Str) : Bool := a.any fun x => b.any fun y => decide (x = y)
set_option maxHeartbeats 1000000 in
theorem Mw.shares (B : Base) (S : List Assn) (pa : Option Addr) (na ca : Nat) (a : List Str) (pb : Option Addr) (nb cb : Nat) (b : List Str) (ha : RdV B S (.slice pa na ca) (a.map kT)) (hb : RdV B S (.slice pb nb cb) (b.map kT)) (hna : a.length = na) (hnb : b.length = nb) (h1 : na < 2 ^ 32) (h2 : nb < 2 ^ 32) : Fn Try.prog B 34 #[.slice pa na ca, .slice pb nb cb] S (fun u l => u = .bool (sharesB a b) ∧ l = S) := by
 refine Fn.enter2 28 Try.func34 rfl rfl (Nat.le_of_ble_eq_true rfl) (fun F => ?_)
 try simp only [List.cons_append, List.nil_append]
 refine T.seq ?_
 refine T.region ?_
 refine LW.q rfl (Qt.assign rfl) ?_
 refine LW.done ?_
 refine T.seq ?_
 refine T.seq ?_
 refine T.region ?_
 refine LW.q rfl (Qt.assign rfl) ?_
 refine LW.done ?_
 refine T.block ?_
 refine T.loop (fun mz fz lz => ∃ (f0 : Fr) (i : Nat), (i ≤ na ∧ ∀ x ∈ a.take i, ∀ y ∈ b, x ≠ y) ∧ mz = na - i ∧ fz = (upd (upd (upd f0 0 (.slice pa na ca)) 1 (.slice pb nb cb)) 5 (.int .i64 i)) ∧ lz = S ++ F) ?_ ?_
 · refine ⟨_, _, ⟨_, 0, ⟨Nat.zero_le _, by simp⟩, rfl, (updS rfl (updS rfl (updS rfl rfl))), rfl⟩, Sub.any⟩
 ·
  rintro mz fz lz ⟨f0, i, ⟨hi, hno⟩, hmz, rfl, rfl⟩
  subst mz
  try simp only [List.cons_append, List.nil_append]
  refine T.seq ?_
  refine T.seq ?_
  refine T.region ?_
  refine LW.q rfl (Qt.move rfl) ?_
  refine LW.q rfl (Qt.move rfl) ?_
  refine LW.q rfl (Qt.len (e := 9) (sz := 1) (by kernel_rfl) rfl) ?_
  refine LW.q rfl (Qt.lss rfl rfl) ?_
  refine LW.done ?_
  refine T.condP rfl (fun hlt => ?_) (fun hlt => ?_)
  ·
   obtain ⟨ab, ao, rfl, hca⟩ := ha.at (by omega)
   have hc1 := hca i (by simp; omega)
   simp only [List.getElem_map] at hc1
   obtain ⟨x, hx⟩ : ∃ x, x = a[i] := ⟨_, rfl⟩
   rw [← hx] at hc1
   clear hca
   refine T.skip ?_
   refine T.seq ?_
   refine T.block ?_
   refine T.seq ?_
   refine T.region ?_
   refine LW.q rfl (Qt.assign rfl) ?_
   refine LW.done ?_
   refine T.block ?_
   refine T.loop (fun mz fz lz => ∃ (f0 : Fr) (j : Nat), (j ≤ nb ∧ ∀ y ∈ b.take j, x ≠ y) ∧ mz = nb - j ∧ fz = (upd (upd (upd (upd f0 0 (.slice (some ⟨ab, ao, none⟩) na ca)) 1 (.slice pb nb cb)) 5 (.int .i64 i)) 6 (.int .i64 j)) ∧ lz = S ++ F) ?_ ?_
   · refine ⟨_, _, ⟨_, 0, ⟨Nat.zero_le _, by simp⟩, rfl, (updS rfl (updS rfl (updS rfl (updS rfl rfl)))), rfl⟩, Sub.any⟩
   ·
    rintro mz fz lz ⟨f0, j, ⟨hj, hno2⟩, hmz, rfl, rfl⟩
    subst mz
    try simp only [List.cons_append, List.nil_append]
    refine T.seq ?_
    refine T.seq ?_
    refine T.region ?_
    refine LW.q rfl (Qt.move rfl) ?_
    refine LW.q rfl (Qt.move rfl) ?_
    refine LW.q rfl (Qt.len (e := 9) (sz := 1) (by kernel_rfl) rfl) ?_
    refine LW.q rfl (Qt.lss rfl rfl) ?_
    refine LW.done ?_
    refine T.condP rfl (fun hlt2 => ?_) (fun hlt2 => ?_)
    ·
     obtain ⟨bb, bo, rfl, hcb⟩ := hb.at (by omega)
     have hc2 := hcb j (by simp; omega)
     simp only [List.getElem_map] at hc2
     obtain ⟨y, hy⟩ : ∃ y, y = b[j] := ⟨_, rfl⟩
     rw [← hy] at hc2
     refine T.skip ?_
     refine T.seq ?_
     refine T.block ?_
     refine T.seq ?_
     refine T.drawAll 9 (by kernel_rfl) (Nat.le_of_ble_eq_true rfl) (by kernel_rfl) ?_
     refine RW.q 0 rfl rfl (by kernel_rfl) (Sub.refl _) (Qt.move rfl) ?_
     refine RW.q 1 rfl rfl (by kernel_rfl) (Sub.refl _) (Qt.move rfl) ?_
     refine RW.q 2 rfl rfl (by kernel_rfl) (Sub.refl _) (Qt.index _ (e := 9) (sz := 1) (by kernel_rfl) rfl rfl rfl (by omega)) ?_
     refine RW.q 3 rfl rfl (by kernel_rfl) (Sub.refl _) (Qt.loadW (v := kT x) (by kernel_rfl) rfl (fun w ho => hc1 w (ho.map Sub.any))) ?_
     refine RW.q 4 rfl rfl (by kernel_rfl) (Sub.refl _) (Qt.move rfl) ?_
     refine RW.q 5 rfl rfl (by kernel_rfl) (Sub.refl _) (Qt.move rfl) ?_
     refine RW.q 6 rfl rfl (by kernel_rfl) (Sub.refl _) (Qt.index _ (e := 9) (sz := 1) (by kernel_rfl) rfl rfl rfl (by omega)) ?_
     refine RW.q 7 rfl rfl (by kernel_rfl) (Sub.refl _) (Qt.loadW (v := kT y) (by kernel_rfl) rfl (fun w ho => hc2 w (ho.map Sub.any))) ?_
     refine RW.q 8 rfl rfl (by kernel_rfl) (Sub.refl _) (Qt.eqlS rfl rfl) ?_
     refine RW.done (by rfl) ?_
     simp only [List.drop_succ_cons, List.drop_zero, List.drop_nil]
     refine LW.done ?_
     refine T.condP rfl (fun he => ?_) (fun he => ?_)
     ·
      have hr : sharesB a b = true := by
       unfold sharesB
       rw [List.any_eq_true]
       exact ⟨x, by rw [hx]; exact List.getElem_mem _, by rw [List.any_eq_true]; exact ⟨y, by rw [hy]; exact List.getElem_mem _, by simpa using he⟩⟩
      refine T.seq ?_
      refine T.region ?_
      refine LW.q rfl (Qt.assign rfl) ?_
      refine LW.done ?_
      refine T.ret ?_
      exact ⟨.inl rfl, _, _, res [_] rfl ⟨rvT rfl, trivial⟩, ⟨by rw [hr]; rfl, rfl⟩, Sub.any⟩
     ·
      refine T.skip ?_
      refine T.region ?_
      refine LW.q rfl (Qt.move rfl) ?_
      refine LW.q rfl (Qt.add rfl rfl (wr64 (by omega) (by omega))) ?_
      refine LW.q rfl (Qt.assign rfl) ?_
      refine LW.done ?_
      refine ⟨_, ?_, _, ⟨_, j + 1, ⟨by omega, fun z hz => by rw [List.take_succ_eq_append_getElem (by omega)] at hz; rcases List.mem_append.1 hz with h | h; exact hno2 z h; simp at h; rw [h, ← hy]; exact he⟩, rfl, (updS rfl (updS rfl (updS rfl (updS rfl rfl)))), rfl⟩, Sub.any⟩
      first | omega | (simp; omega)
    ·
     obtain rfl : nb = j := by omega
     refine T.exit ?_
     refine T.region ?_
     refine LW.q rfl (Qt.move rfl) ?_
     refine LW.q rfl (Qt.add rfl rfl (wr64 (by omega) (by omega))) ?_
     refine LW.q rfl (Qt.assign rfl) ?_
     refine LW.done ?_
     refine ⟨_, ?_, _, ⟨_, i + 1, ⟨by omega, fun z hz => by rw [List.take_succ_eq_append_getElem (by omega)] at hz; rcases List.mem_append.1 hz with h | h; exact hno z h; simp at h; rw [h, ← hx]; rw [← hnb, List.take_length] at hno2; exact hno2⟩, rfl, (updS rfl (updS rfl (updS rfl rfl))), rfl⟩, Sub.any⟩
     first | omega | (simp; omega)
  ·
   obtain rfl : na = i := by omega
   have hr : sharesB a b = false := by
    unfold sharesB
    rw [List.any_eq_false]
    intro x hx
    rw [← hna, List.take_length] at hno
    simp only [List.any_eq_true, decide_eq_true_eq, not_exists, not_and]
    exact fun y hy => hno x hx y hy
   refine T.exit ?_
   refine T.seq ?_
   refine T.region ?_
   refine LW.q rfl (Qt.assign rfl) ?_
   refine LW.done ?_
   refine T.ret ?_
   exact ⟨.inl rfl, _, _, res [_] rfl ⟨rvT rfl, trivial⟩, ⟨by rw [hr]; rfl, rfl⟩, Sub.any⟩
end Go.Proofs.Ytgfbjabjkjbnlaa

/- The document's manager (annalsref12): Check, Commit. Conditions: sizes. -/
set_option linter.unusedSimpArgs false
set_option linter.unusedVariables false
namespace Go.Proofs.Ytgfbjabjkjbnlaa
open Go.RowKit

/-- The lists of keys lie in the pool. -/
structure RmOk (m : Rm) (Q : List Kq) (N : Nat) : Prop where
  T : ∀ x ∈ m.T, InQ Q x.q ∧ x.q.ks.length ≤ N
  H : ∀ x ∈ m.H, InQ Q x.q ∧ x.q.ks.length ≤ N
end Go.Proofs.Ytgfbjabjkjbnlaa
