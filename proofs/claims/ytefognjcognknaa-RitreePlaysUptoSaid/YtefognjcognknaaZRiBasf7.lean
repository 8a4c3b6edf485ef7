/- The texts SfI RiS RiG BtD BtE BtF BtG BtH, one behind the other: what the law leans on. Conditions: as each theorem says. -/
import Derived.Test.YtefognjcognknaaZRiBasf6
import Derived.Shelf.SlLaysNS
import Derived.Test.YtefognjcognknaaProg
import Derived.Shelf.SortG.Plain
import Derived.Shelf.GgSortFunc.Insertion
import Derived.Shelf.SortG.SortNone
/-
  DERIVED: THE SHELF's CONTRACTS AT THIS DUMP, IN PLAIN WORDS (tools/lay-plain.mjs out of 'YtefognjcognknaaSfI.lean', which tools/lay-shelf.mjs wrote): THE SAME DECLARATIONS UNDER THE SAME NAMES: 'import', 'namespace', 'open', 'def', 'theorem' AND NOTHING ELSE: no command of the shelf's: FOR A HAND-IN. Each laying: the table of numbers ('.._ren') and one theorem, a field a fact of the dump's own or the kernel's comparison; each contract: ONE APPLICATION.
-/
namespace Go.Proofs
open Go.Shelf
def Try.sortI_ren : Go.Shelf.Ren := ⟨fun | 53 => 59 | 64 => 84 | 63 => 83 | 78 => 104 | 79 => 56 | 70 => 95 | 71 => 96 | 72 => 97 | 73 => 98 | 74 => 99 | 75 => 100 | 59 => 101 | 76 => 102 | 77 => 103 | 88 => 110 | 89 => 111 | 90 => 112 | 91 => 113 | 92 => 114 | 68 => 115 | 96 => 117 | n => n, fun | 22 => 62 | 23 => 2 | 3 => 3 | 51 => 143 | 0 => 0 | 67 => 164 | 69 => 114 | 4 => 4 | 61 => 157 | 60 => 156 | 44 => 102 | 5 => 5 | 9 => 9 | 75 => 166 | 79 => 170 | 83 => 174 | 84 => 175 | n => n, fun | n => n⟩
theorem Try.sortI : Go.Proofs.SlLaysN.n53 Try.prog Try.sortI_ren := {
  mixed := by kernel_rfl
  f53 := ⟨Try.f59.name, by decide, Try.func59.trans (congrArg some (by kernel_rfl))⟩
  f59 := ⟨Try.f101.name, by decide, Try.func101.trans (congrArg some (by kernel_rfl))⟩
  f63 := ⟨Try.f83.name, by decide, Try.func83.trans (congrArg some (by kernel_rfl))⟩
  f64 := Try.func84.trans (congrArg some (by kernel_rfl))
  f68 := ⟨Try.f115.name, by decide, Try.func115.trans (congrArg some (by kernel_rfl))⟩
  f70 := ⟨Try.f95.name, by decide, Try.func95.trans (congrArg some (by kernel_rfl))⟩
  f71 := ⟨Try.f96.name, by decide, Try.func96.trans (congrArg some (by kernel_rfl))⟩
  f72 := ⟨Try.f97.name, by decide, Try.func97.trans (congrArg some (by kernel_rfl))⟩
  f73 := ⟨Try.f98.name, by decide, Try.func98.trans (congrArg some (by kernel_rfl))⟩
  f74 := ⟨Try.f99.name, by decide, Try.func99.trans (congrArg some (by kernel_rfl))⟩
  f75 := ⟨Try.f100.name, by decide, Try.func100.trans (congrArg some (by kernel_rfl))⟩
  f76 := ⟨Try.f102.name, by decide, Try.func102.trans (congrArg some (by kernel_rfl))⟩
  f77 := ⟨Try.f103.name, by decide, Try.func103.trans (congrArg some (by kernel_rfl))⟩
  f78 := Try.func104.trans (congrArg some (by kernel_rfl))
  f79 := Try.func56.trans (congrArg some (by kernel_rfl))
  f88 := ⟨Try.f110.name, by decide, Try.func110.trans (congrArg some (by kernel_rfl))⟩
  f89 := Try.func111.trans (congrArg some (by kernel_rfl))
  f90 := Try.func112.trans (congrArg some (by kernel_rfl))
  f91 := ⟨Try.f113.name, by decide, Try.func113.trans (congrArg some (by kernel_rfl))⟩
  f92 := ⟨Try.f114.name, by decide, Try.func114.trans (congrArg some (by kernel_rfl))⟩
  f96 := ⟨Try.f117.name, by decide, Try.func117.trans (congrArg some (by kernel_rfl))⟩
  t0 := Try.underlying0
  a0 := Try.isAgg0
  z0 := Try.sizeOf0
  v0 := Try.zeroValue0
  t3 := Try.underlying3
  a3 := Try.isAgg3
  z3 := Try.sizeOf3
  v3 := Try.zeroValue3
  t4 := Try.underlying4
  a4 := Try.isAgg4
  z4 := Try.sizeOf4
  v4 := Try.zeroValue4
  t5 := Try.underlying5
  a5 := Try.isAgg5
  z5 := Try.sizeOf5
  v5 := Try.zeroValue5
  t9 := Try.underlying9
  a9 := Try.isAgg9
  z9 := Try.sizeOf9
  v9 := Try.zeroValue9
  t22 := Try.underlying62
  a22 := Try.isAgg62
  z22 := Try.sizeOf62
  v22 := Try.zeroValue62
  t23 := Try.underlying2
  a23 := Try.isAgg2
  z23 := Try.sizeOf2
  v23 := Try.zeroValue2
  t44 := Try.underlying102
  a44 := Try.isAgg102
  z44 := Try.sizeOf102
  v44 := Try.zeroValue102
  t51 := Try.underlying143
  a51 := Try.isAgg143
  z51 := Try.sizeOf143
  v51 := Try.zeroValue143
  t60 := Try.underlying156
  a60 := Try.isAgg156
  z60 := Try.sizeOf156
  v60 := Try.zeroValue156
  t61 := Try.underlying157
  a61 := Try.isAgg157
  z61 := Try.sizeOf157
  v61 := Try.zeroValue157
  t67 := Try.underlying164
  a67 := Try.isAgg164
  z67 := Try.sizeOf164
  v67 := Try.zeroValue164
  t69 := Try.underlying114
  a69 := Try.isAgg114
  z69 := Try.sizeOf114
  v69 := Try.zeroValue114
  t75 := Try.underlying166
  a75 := Try.isAgg166
  z75 := Try.sizeOf166
  v75 := Try.zeroValue166
  t79 := Try.underlying170
  a79 := Try.isAgg170
  z79 := Try.sizeOf170
  v79 := Try.zeroValue170
  t83 := Try.underlying174
  a83 := Try.isAgg174
  z83 := Try.sizeOf174
  v83 := Try.zeroValue174
  t84 := Try.underlying175
  a84 := Try.isAgg175
  z84 := Try.sizeOf175
  v84 := Try.zeroValue175 }
end Go.Proofs

/- (SiA and what it needs of SfA) slices.Sort of numbers over rows of the separation logic: what the kit's contract says, in its words. Conditions: sizes. -/
set_option linter.unusedSimpArgs false
set_option linter.unusedVariables false
namespace Go.Proofs.Ytefognjcognknaa
open Go.RowKit Go.Shelf Go.Lib Go.Sort
section
variable {P : Program} {B : Base} {α : Type} [Inhabited α]
theorem sort_block (enc : α → Value) (w : World) (g m : Nat) (d : Array α) (os : Array Obj) {cur : Array Value} {e : TypeId} {fr : Nat × Nat} (h : w.heap[g]? = some (.cells cur e fr)) : (sortWorld enc w g 0 m d os).heap[g]? = some (.cells (putCells enc 0 d cur) e fr) := by
  have hg : g < w.heap.size := lt_of_block h
  unfold sortWorld
  rw [heap_grow_old _ _ (by rw [size_putRow]; exact hg)]
  show (Array.modify w.heap g (onCells (putCells enc 0 d)))[g]? = _
  rw [Array.getElem?_modify, if_pos rfl, h]
  rfl
theorem sort_kept (enc : α → Value) (w : World) (g m : Nat) (d : Array α) (os : Array Obj) : Kept [g] w (sortWorld enc w g 0 m d os) := by
  refine ⟨rfl, rfl, rfl, ?_, fun k hk hn => ?_⟩
  · unfold sortWorld
    rw [size_grow, size_putRow]
    exact Nat.le_add_right _ _
  · unfold sortWorld
    rw [heap_grow_old _ _ (by rw [size_putRow]; exact hk)]
    show (Array.modify w.heap g (onCells (putCells enc 0 d)))[k]? = _
    rw [Array.getElem?_modify, if_neg (fun e => hn (by simp [e]))]
theorem put_take (enc : α → Value) (d : Array α) (cur : Array Value) (h : d.size ≤ cur.size) : (putCells enc 0 d cur).toList.take (d.size * 1) = d.toList.map enc := by
  apply List.ext_getElem
  · simp [putCells]; omega
  · intro i h1 h2
    have hi : i < d.size := by simpa using h2
    simp [putCells, hi, getElem!_pos]
theorem Own.sorted {w : World} {g m cap k : Nat} {e : TypeId} {ds : List α} {enc : α → Value} {l : List Assn} (H : Own B w (row (.slice (some ⟨g, 0, none⟩) m cap) e 1 m (ds.map enc) :: l)) (d' : Array α) (hd : d'.size = m) (os : Array Obj) : Own B (sortWorld enc w g 0 k d' os) (row (.slice (some ⟨g, 0, none⟩) m cap) e 1 m (d'.toList.map enc) :: l) := by
  obtain ⟨e1, e2⟩ := H.row_owns
  rcases e2 with ⟨e2, _⟩ | ⟨g', cap', cur, e2, _, e3, e4, e5, e6, e7⟩
  · cases e2
  · injection e2 with e2 _ e8
    injection e2 with e2
    injection e2 with e2
    subst e2; subst e8
    refine H.row_kept (by simpa [Value.ownBlock] using sort_kept enc w g k d' os) ⟨by simp [hd], .inr ⟨g, cap, _, rfl, Nat.zero_le _, sort_block enc w g k d' os e3, e4, e5, by simp [putCells, e6], ?_⟩⟩ (fun g2 hg => .inl hg)
    rw [← hd]
    exact put_take enc d' cur (by omega)
end

abbrev sortZ (zs : List Int) : List Int := zs.mergeSort fun x y => decide (x ≤ y)
theorem Fn.sortI {P : Program} {B : Base} {ρ : Ren} (L : SlLaysN.n53 P ρ) (v : Value) (e : TypeId) (m : Nat) (zs : List Int) (hm : zs.length = m) (hb : m < 2 ^ 61) (S : List Assn) (f : Nat) (hf : ρ.f 53 = f) :
    Fn P B f #[v] (row v e 1 m (zs.map (Value.int .i64)) :: S) (fun u l => u = .tuple #[] ∧ l = row v e 1 m ((sortZ zs).map (Value.int .i64)) :: S) := ⟨fun w F ho => by
  subst hf
  obtain ⟨p, cap, rfl, hp, hl⟩ := Own.row_slice ho
  rcases Nat.eq_zero_or_pos m with h0 | h0
  · subst h0
    obtain rfl : zs = [] := List.eq_nil_of_length_eq_zero hm
    refine (AnyG.slices_Sort_int_none L p cap w).mono ?_
    rintro _ w' ⟨rfl, rfl⟩
    exact ⟨_, _, rfl, ⟨rfl, by simp [sortZ]⟩, ho⟩
  · obtain ⟨g, rfl⟩ := hp h0
    have hsz : zs.toArray.size = m := by simpa using hm
    obtain ⟨e1, e2⟩ := ho.row_owns
    rcases e2 with ⟨e2, _⟩ | ⟨g', cap', cur, e2, _, e3, e4, e5, e6, e7⟩
    · cases e2
    · injection e2 with e2 _ e8
      injection e2 with e2
      injection e2 with e2
      subst e2
      have hH : Holds (Value.int .i64) w g 0 zs.toArray := fun j hj => by
        have hlj : j < zs.length := by simpa using hj
        have hc : cur[j]? = some (.int .i64 zs[j]) := by
          rw [← Array.getElem?_toList]
          have : (cur.toList.take (m * 1))[j]? = (zs.map (Value.int .i64))[j]? := by rw [e7]
          rw [List.getElem?_take, if_pos (by omega)] at this
          rw [this]
          simp [hlj]
        constructor
        · unfold World.cell?
          rw [e3]
          simp [hc, hlj, getElem!_pos]
        · unfold World.frozen?
          rw [e3]
          simp
      have hblk : g < w.heap.size := lt_of_block e3
      have h := AnyG.slices_Sort_int L g 0 cap zs w hH hblk (by omega)
      rw [hm] at h
      refine h.mono ?_
      rintro _ w' ⟨rfl, k, os, rfl⟩
      have hso := ho.sorted (k := k) (sortZ zs).toArray (by simp [sortZ, hm]) os
      exact ⟨_, _, rfl, ⟨rfl, rfl⟩, hso⟩⟩
end Go.Proofs.Ytefognjcognknaa

/- The nodes beside a period: package ritree's. Conditions: sizes. -/
set_option linter.unusedSimpArgs false
set_option linter.unusedVariables false
namespace Go.Proofs.Ytefognjcognknaa
open Go.RowKit
section
variable {P : Program} {B : Base} {n : Nat} {S l : List Assn} {f : Fr}
variable {d : Option Tmp} {ty : TypeId} {pos : String} {af : Array Edge} {gd : Option (Nat × Bool)}
theorem Qt.buildAs {t len e sz : Nat} {parts : Array (Nat × Operand)} (vs C : List Value) (ht : arrB P t len e sz = true) (hz : (P.info? t).bind (fun i => i.zero.map (·.cells.size)) = some (len * sz)) (hp : parts.toList.map (fun p => (p.1, ev n f p.2)) = (vs.zipIdx 0).map fun x => (x.2, some x.1)) (h1 : ∀ v ∈ vs, v.cells.size = sz) (hC : (vs.flatMap fun v => v.cells.toList) = C) (hl : vs.length = len) (hs0 : 0 < sz) : Qt P B n S ⟨d, .build t parts, ty, pos, af, gd⟩ f (.agg C.toArray) := ⟨fun w _ => by
  subst hC
  unfold arrB at ht
  simp only [Bool.and_eq_true, decide_eq_true_eq] at ht
  obtain ⟨q1, q2⟩ := ht
  split at q1
  · rename_i m e' hu
    simp at q1
    obtain ⟨rfl, rfl⟩ := q1
    obtain ⟨i', hi, hs⟩ := info_of_size q2
    cases hit : P.info? t with
    | none => rw [hit] at hz; cases hz
    | some it =>
      rw [hit] at hz
      simp only [Option.bind_some] at hz
      cases hzz : it.zero with
      | none => rw [hzz] at hz; cases hz
      | some z =>
        rw [hzz] at hz
        simp only [Option.map_some, Option.some.injEq] at hz
        have hpe : (parts.map fun p => (p.1, evu n f p.2)).toList = (vs.zipIdx 0).map fun x => (x.2, x.1) := by
          rw [Array.toList_map]
          have e := congrArg (List.map (fun p : Nat × Option Value => (p.1, p.2.getD undef))) hp
          simp only [List.map_map, Function.comp_def, Option.getD_some] at e
          exact e
        have hfl := Great.fill_whole hs0 vs z.cells h1 (by rw [hl]; exact hz.symm)
        show ((do pure (.value (← Instr.build t (parts.map fun p => (p.1, evu n f p.2)))) : Sem Next)).run P w = _
        simp [Instr.build, zeroValue, sizeOf, typeInfo, hit, hzz, hi, hs, run_underlying hu, hpe, hfl, -Array.toList_map]
  · cases q1⟩
theorem Qt.indexV {t len e : Nat} {x y : Operand} {vs : List Value} {v : Value} {k : IntKind} {i : Int} (j : Nat) (ht : arrB P t len e 1 = true) (he : oneB P e = true) (hx : ev n f x = some (.agg vs.toArray)) (hy : ev n f y = some (.int k i)) (hj : i = (j : Int)) (hl : j < len) (hv : vs[j]? = some v) : Qt P B n S ⟨d, .index t x y, ty, pos, af, gd⟩ f v := ⟨fun w _ => by
  subst hj
  unfold arrB at ht
  simp only [Bool.and_eq_true, decide_eq_true_eq] at ht
  obtain ⟨h1, h2⟩ := ht
  split at h1
  · rename_i m e' hu
    simp at h1
    obtain ⟨rfl, rfl⟩ := h1
    obtain ⟨i', hi, hs⟩ := info_of_size h2
    unfold oneB at he
    split at he
    · cases he
    · cases he
    · rename_i dd n1 n2 hut
      have hagg : (isAgg e').run P w = .ok false w := by
        unfold isAgg
        simp only [Sem.run_bind, run_underlying hut, Result.andThen_ok]
        cases dd <;> first | exact (n1 _ rfl).elim | exact (n2 _ _ rfl).elim | rfl
      have hv' : vs.toArray[j]? = some v := by simpa using hv
      have hlt : (j : Int) < (m : Int) := by omega
      simp [execOp, Instr.index, evu_eq hx, evu_eq hy, asIntOf, run_underlying hu, hl, sizeOf, typeInfo, hi, hs, part, hagg, hv']
      try simp [hv]
    · cases he
  · cases h1⟩
end
theorem Ri.sort (B : Base) (p : Option Addr) (m c : Nat) (zs : List Int) (hm : zs.length = m) (hb : m < 2 ^ 61) : Fn Try.prog B 59 #[.slice p m c] [rZ p m c zs] (fun u l => u = .tuple #[] ∧ l = [rZ p m c (srtZ zs)]) := Fn.sortI Try.sortI (.slice p m c) 2 m zs hm hb [] 59 rfl
theorem Ri.nodesNo (B : Base) (f t : Int) (h : ¬ okP f t) : Fn Try.prog B 29 #[pdV f t] [] (fun u l => u = .tuple #[.slice none 0 0, .slice none 0 0, .int .i64 40] ∧ l = []) := by
  refine Fn.enter1 74 Try.func29 rfl rfl (Nat.le_of_ble_eq_true rfl) (fun F => ?_)
  try simp only [List.cons_append, List.nil_append]
  refine T.seq ?_
  refine T.region ?_
  refine LW.e rfl (Ef.box [_, _] rfl rfl ?_)
  intro g1
  refine LW.e rfl (Ef.alloc [.slice none 0 0] (by unfold zeroB; kernel_rfl) ?_)
  intro g2
  refine LW.e rfl (Ef.alloc [.slice none 0 0] (by unfold zeroB; kernel_rfl) ?_)
  intro g3
  refine LW.q rfl (Qt.assign rfl) ?_
  refine LW.done ?_
  refine T.seq ?_
  refine T.seq ?_
  refine T.region ?_
  first | refine LW.q rfl (Qt.loadAgg [_, _] (by kernel_rfl) rfl ⟨rfl, rfl, trivial⟩) ?_ | refine LW.q rfl (Qt.loadAgg [_, _] (by kernel_rfl) rfl (by exact rdl_flat _ _ _ (by intros; rfl) _ (by omega))) ?_
  refine LW.e rfl (Ef.call (Ri.checkNo B f t h) Try.func36 rfl rfl rfl ?_)
  rintro _ _ ⟨rfl, rfl⟩
  try simp only [List.cons_append, List.nil_append]
  refine LW.q rfl (Qt.assign rfl) ?_
  refine LW.done ?_
  refine T.seq ?_
  refine T.region ?_
  refine LW.q rfl (Qt.move rfl) ?_
  refine LW.q rfl (Qt.neq rfl rfl) ?_
  refine LW.done ?_
  first | refine T.condT rfl ?_ | refine T.condPT rfl (by omega) ?_ | refine T.condBT rfl (by omega) ?_
  refine T.seq ?_
  refine T.region ?_
  refine LW.q rfl (Qt.move rfl) ?_
  refine LW.e0 rfl (Ef.store1 (by kernel_rfl) rfl rfl rfl (by first | (simp; done) | (simp; omega)) ?_)
  try simp only [List.set_cons_zero, List.set_cons_succ]
  refine LW.e0 rfl (Ef.store1 (by kernel_rfl) rfl rfl rfl (by first | (simp; done) | (simp; omega)) ?_)
  try simp only [List.set_cons_zero, List.set_cons_succ]
  refine LW.q rfl (Qt.assign rfl) ?_
  refine LW.done ?_
  refine T.ret ?_
  exact ⟨.inl rfl, _, _, res [_, _, _] rfl ⟨rvC (by kernel_rfl) rfl rfl, rvC (by kernel_rfl) rfl rfl, rvT rfl, trivial⟩, ⟨rfl, rfl⟩, Sub.any⟩
/-- The ends' nodes that are seen behind so many ends. -/
def endsI (a b i : Nat) : List Nat := if i = 0 then [] else if i = 1 then ancN a ++ [0] else endsN a b
def endI (a b i : Nat) : List Nat := if i = 0 then ancN a ++ [0] else ancN (b - 1) ++ [0]
theorem ends_next {a b i : Nat} (h : i < 2) : endsI a b i ++ endI a b i = endsI a b (i + 1) := by
  rcases (by omega : i = 0 ∨ i = 1) with rfl | rfl
  · simp [endsI, endI]
  · simp [endsI, endI, endsN]
theorem end_len (a b i : Nat) : (endI a b i).length ≤ 42 := by
  unfold endI
  have := anc_len a; have := anc_len (b - 1)
  split <;> simp <;> omega
theorem ends_len (a b i : Nat) : (endsI a b i).length ≤ 84 := by
  unfold endsI endsN
  have := anc_len a; have := anc_len (b - 1)
  split
  · simp
  · split <;> simp <;> omega
theorem rawL_snoc (l : List Nat) (a x : Nat) : rawL (l ++ [x]) a = if x < a then rawL l a ++ [(x : Int)] else rawL l a := by
  unfold rawL
  rw [List.filter_append]
  split <;> rename_i h <;> simp [h]
theorem rawR_snoc (l : List Nat) (a x : Nat) : rawR (l ++ [x]) a = if a ≤ x then rawR l a ++ [(x : Int)] else rawR l a := by
  unfold rawR
  rw [List.filter_append]
  split <;> rename_i h <;> simp [h]
theorem rawL_len (l : List Nat) (a : Nat) : (rawL l a).length ≤ l.length := by unfold rawL zL; rw [List.length_map]; exact List.length_filter_le _ _
theorem rawR_len (l : List Nat) (a : Nat) : (rawR l a).length ≤ l.length := by unfold rawR zL; rw [List.length_map]; exact List.length_filter_le _ _
set_option maxHeartbeats 4000000 in
set_option maxRecDepth 100000 in
theorem Ri.nodes (B : Base) (a b : Nat) (h : okP a b) : Fn Try.prog B 29 #[pdV a b] [] (fun u l => ∃ p1 c1 p2 c2, u = .tuple #[.slice p1 (leftZ a).length c1, .slice p2 (rightZ b).length c2, .int .i64 0] ∧ l = [rZ p1 (leftZ a).length c1 (leftZ a), rZ p2 (rightZ b).length c2 (rightZ b)]) := by
 obtain ⟨h1, h2, h3⟩ := id h
 refine Fn.enter1 74 Try.func29 rfl rfl (Nat.le_of_ble_eq_true rfl) (fun F => ?_)
 try simp only [List.cons_append, List.nil_append]
 refine T.seq ?_
 refine T.region ?_
 refine LW.e rfl (Ef.box [_, _] rfl rfl ?_)
 intro g1
 refine LW.e rfl (Ef.alloc [.slice none 0 0] (by unfold zeroB; kernel_rfl) ?_)
 intro g2
 refine LW.e rfl (Ef.alloc [.slice none 0 0] (by unfold zeroB; kernel_rfl) ?_)
 intro g3
 refine LW.q rfl (Qt.assign rfl) ?_
 refine LW.done ?_
 refine T.seq ?_
 refine T.seq ?_
 refine T.region ?_
 first | refine LW.q rfl (Qt.loadAgg [_, _] (by kernel_rfl) rfl ⟨rfl, rfl, trivial⟩) ?_ | refine LW.q rfl (Qt.loadAgg [_, _] (by kernel_rfl) rfl (by exact rdl_flat _ _ _ (by intros; rfl) _ (by omega))) ?_
 refine LW.e rfl (Ef.call (Ri.check B a b h) Try.func36 rfl rfl rfl ?_)
 rintro _ _ ⟨rfl, rfl⟩
 try simp only [List.cons_append, List.nil_append]
 refine LW.q rfl (Qt.assign rfl) ?_
 refine LW.done ?_
 refine T.seq ?_
 refine T.region ?_
 refine LW.q rfl (Qt.move rfl) ?_
 refine LW.q rfl (Qt.neq rfl rfl) ?_
 refine LW.done ?_
 first | refine T.condF rfl ?_ | refine T.condPF rfl (by omega) ?_ | refine T.condBF rfl (by omega) ?_
 refine T.conv (l' := rZ none 0 0 [] :: _) (fun w ho => ho.row_nil 2 1) ?_
 refine T.conv (l' := rZ none 0 0 [] :: _) (fun w ho => ho.row_nil 2 1) ?_
 refine T.skip ?_
 refine T.seq ?_
 refine T.seq ?_
 refine T.region ?_
 refine LW.q rfl (Qt.fieldAddr0 (by kernel_rfl) rfl) ?_
 first | refine LW.q rfl (Qt.load (by kernel_rfl) rfl rfl) ?_ | refine LW.q rfl (Qt.load (by kernel_rfl) rfl (map_at _ _ _ (by omega))) ?_ | refine LW.q rfl (Qt.load (by kernel_rfl) rfl (flat_cell0 _ _ _ (by intros; rfl) _ (by omega) (by rfl))) ?_ | refine LW.q rfl (Qt.load (by kernel_rfl) rfl (flat_cell _ _ _ (by intros; rfl) _ _ (by omega) (by rfl))) ?_ | refine LW.q rfl (Qt.load (by kernel_rfl) rfl (bytes_at _ _ (by omega))) ?_
 refine LW.q rfl (Qt.fieldAddr (off := 1) (by kernel_rfl) rfl) ?_
 first | refine LW.q rfl (Qt.load (by kernel_rfl) rfl rfl) ?_ | refine LW.q rfl (Qt.load (by kernel_rfl) rfl (map_at _ _ _ (by omega))) ?_ | refine LW.q rfl (Qt.load (by kernel_rfl) rfl (flat_cell0 _ _ _ (by intros; rfl) _ (by omega) (by rfl))) ?_ | refine LW.q rfl (Qt.load (by kernel_rfl) rfl (flat_cell _ _ _ (by intros; rfl) _ _ (by omega) (by rfl))) ?_ | refine LW.q rfl (Qt.load (by kernel_rfl) rfl (bytes_at _ _ (by omega))) ?_
 refine LW.q rfl (Qt.sub (r := ((b - 1 : Nat) : Int)) rfl rfl (by rw [wr64 (by omega) (by omega)]; omega)) ?_
 refine LW.q rfl (Qt.buildAs [_, _] [_, _] (len := 2) (e := 2) (sz := 1) (by kernel_rfl) (by kernel_rfl) rfl (by simp [Value.cells]) rfl rfl (by omega)) ?_
 refine LW.q rfl (Qt.move rfl) ?_
 refine LW.done ?_
 refine T.block ?_
 refine T.loop (fun mz fz lz => ∃ (f0 : Fr) (i : Nat) (A R : List Int) (n1 n2 : Nat) (p1 : Option Addr) (c1 : Nat) (p2 : Option Addr) (c2 : Nat), (i ≤ 2 ∧ A = rawL (endsI a b i) a ∧ R = rawR (endsI a b i) b ∧ A.length = n1 ∧ R.length = n2) ∧ mz = 2 - i ∧ fz = (upd (upd (upd (upd (upd f0 1 (pV g1)) 2 (pV g2)) 3 (pV g3)) 22 (pdV a (b - 1 : Nat))) 23 (.int .i64 i)) ∧ lz = blk g1 [.int .i64 a, .int .i64 b] 57 :: blk g2 [.slice p1 n1 c1] 62 :: blk g3 [.slice p2 n2 c2] 62 :: rZ p1 n1 c1 A :: rZ p2 n2 c2 R :: F) ?_ ?_
 · refine ⟨_, _, ⟨_, 0, [], [], 0, 0, none, 0, none, 0, ⟨by omega, rfl, rfl, rfl, rfl⟩, rfl, (updS rfl (updS rfl (updS rfl (updS rfl (updS rfl rfl))))), rfl⟩, Sub.any⟩
 ·
  rintro mz fz lz ⟨f0, i, A, R, n1, n2, p1, c1, p2, c2, ⟨hi, hA, hR, hn1, hn2⟩, hmz, rfl, rfl⟩
  subst mz
  try simp only [List.cons_append, List.nil_append]
  refine T.seq ?_
  refine T.region ?_
  refine LW.q rfl (Qt.lss rfl rfl) ?_
  refine LW.done ?_
  refine T.seq ?_
  refine T.condP rfl (fun hlt => ?_) (fun hlt => ?_)
  ·
   have hlt' : i < 2 := by omega
   obtain ⟨e, he, hel⟩ : ∃ e : Nat, e < 2 ^ 40 ∧ ((i = 0 ∧ e = a) ∨ (i = 1 ∧ e = b - 1)) := by rcases (by omega : i = 0 ∨ i = 1) with rfl | rfl; exact ⟨a, by omega, .inl ⟨rfl, rfl⟩⟩; exact ⟨b - 1, by omega, .inr ⟨rfl, rfl⟩⟩
   have hend : ancN e ++ [0] = endI a b i := by rcases hel with ⟨rfl, rfl⟩ | ⟨rfl, rfl⟩ <;> rfl
   refine T.skip ?_
   refine T.seq ?_
   refine T.block ?_
   refine T.seq ?_
   refine T.region ?_
   refine LW.q rfl (Qt.indexV (e := 2) (v := .int .i64 e) i (by kernel_rfl) (by kernel_rfl) rfl rfl rfl hlt' (by rcases hel with ⟨rfl, rfl⟩ | ⟨rfl, rfl⟩ <;> rfl)) ?_
   refine LW.q rfl (Qt.assign rfl) ?_
   refine LW.done ?_
   refine T.seq ?_
   refine T.region ?_
   refine LW.q rfl (Qt.move rfl) ?_
   refine LW.e rfl (Ef.call (Ri.way B e e rfl he) Try.func58 rfl rfl rfl ?_)
   rintro _ _ ⟨p5, c5, rfl, rfl⟩
   try simp only [List.cons_append, List.nil_append]
   refine LW.e rfl (Ef.one [_] (e := 2) (sz := 1) (by kernel_rfl) ⟨.int .i64 0, by kernel_rfl, rfl⟩ rfl rfl rfl (by omega) (by omega) ?_)
   intro g28
   refine LW.e rfl (Ef.append Ri.elemZ rfl rfl (SrcOf.blk (by kernel_rfl) rfl (by simp [Value.oneCell'])) (by have := anc_len e; unfold maxLen; omega) (by have := anc_len e; omega) ?_)
   rintro p6 c6 hp6
   try simp only [List.cons_append, List.nil_append]
   rw [show (ancN e).length + 1 = (endI a b i).length by rw [← hend]; simp, show (zL (ancN e)).map iV ++ [Value.int .i64 0] = (zL (endI a b i)).map iV by rw [← hend]; simp]
   have hEl := end_len a b i
   obtain ⟨E, hE⟩ : ∃ E, E = endI a b i := ⟨_, rfl⟩
   rw [← hE] at hEl ⊢
   refine LW.q rfl (Qt.len (e := 2) (sz := 1) (by kernel_rfl) rfl) ?_
   refine LW.q rfl (Qt.move rfl) ?_
   refine LW.done ?_
   refine T.block ?_
   refine T.loop (fun mz fz lz => ∃ (f0 : Fr) (j : Nat) (A R : List Int) (n1 n2 : Nat) (p1 : Option Addr) (c1 : Nat) (p2 : Option Addr) (c2 : Nat), (j ≤ E.length ∧ A = rawL (endsI a b i ++ E.take j) a ∧ R = rawR (endsI a b i ++ E.take j) b ∧ A.length = n1 ∧ R.length = n2) ∧ mz = E.length - j ∧ fz = (upd (upd (upd (upd (upd (upd (upd (upd f0 1 (pV g1)) 2 (pV g2)) 3 (pV g3)) 22 (pdV a (b - 1 : Nat))) 23 (.int .i64 i)) 29 (.slice p6 E.length c6)) 30 (.int .i64 E.length)) 31 (.int .i64 j)) ∧ lz = rZ p6 E.length c6 (zL E) :: blk g1 [.int .i64 a, .int .i64 b] 57 :: blk g2 [.slice p1 n1 c1] 62 :: blk g3 [.slice p2 n2 c2] 62 :: rZ p1 n1 c1 A :: rZ p2 n2 c2 R :: F) ?_ ?_
   · refine ⟨_, _, ⟨_, 0, A, R, n1, n2, p1, c1, p2, c2, ⟨Nat.zero_le _, by rw [hA]; simp, by rw [hR]; simp, hn1, hn2⟩, rfl, (updS rfl (updS rfl (updS rfl (updS rfl (updS rfl (updS rfl (updS rfl (updS rfl rfl)))))))), rfl⟩, Sub.any⟩
   ·
    rintro mz fz lz ⟨f0, j, A, R, n1, n2, p1, c1, p2, c2, ⟨hj, hA2, hR2, hn3, hn4⟩, hmz, rfl, rfl⟩
    subst mz
    try simp only [List.cons_append, List.nil_append]
    refine T.seq ?_
    refine T.region ?_
    refine LW.q rfl (Qt.lss rfl rfl) ?_
    refine LW.done ?_
    refine T.seq ?_
    refine T.condP rfl (fun hjl => ?_) (fun hjl => ?_)
    ·
     have hjl' : j < E.length := by omega
     have hsn : endsI a b i ++ E.take (j + 1) = (endsI a b i ++ E.take j) ++ [E[j]] := by rw [List.take_succ_eq_append_getElem hjl', List.append_assoc]
     have hl84 := ends_len a b i
     have hlA := rawL_len (endsI a b i ++ E.take j) a
     have hlR := rawR_len (endsI a b i ++ E.take j) b
     rw [← hA2, List.length_append, List.length_take] at hlA
     rw [← hR2, List.length_append, List.length_take] at hlR
     refine T.own fun w1 ho1 => ?_
     obtain ⟨g6, rfl⟩ := (ho1.slice_at (p := p6) (m := E.length) (c := c6) (k := E.length)).2.1 (by omega)
     clear ho1
     by_cases hxl : E[j] < a
     ·
      refine T.skip ?_
      refine T.seq ?_
      refine T.block ?_
      refine T.seq ?_
      refine T.region ?_
      refine LW.q rfl (Qt.index j (e := 2) (sz := 1) (by kernel_rfl) rfl rfl rfl hjl') ?_
      refine LW.q rfl (Qt.load (v := .int .i64 (E[j] : Nat)) (by kernel_rfl) rfl (by simp [hjl'])) ?_
      refine LW.q rfl (Qt.assign rfl) ?_
      refine LW.done ?_
      refine T.block ?_
      refine T.seq ?_
      refine T.region ?_
      refine LW.q rfl (Qt.move rfl) ?_
      refine LW.q rfl (Qt.fieldAddr0 (by kernel_rfl) rfl) ?_
      first | refine LW.q rfl (Qt.load (by kernel_rfl) rfl rfl) ?_ | refine LW.q rfl (Qt.load (by kernel_rfl) rfl (map_at _ _ _ (by omega))) ?_ | refine LW.q rfl (Qt.load (by kernel_rfl) rfl (flat_cell0 _ _ _ (by intros; rfl) _ (by omega) (by rfl))) ?_ | refine LW.q rfl (Qt.load (by kernel_rfl) rfl (flat_cell _ _ _ (by intros; rfl) _ _ (by omega) (by rfl))) ?_ | refine LW.q rfl (Qt.load (by kernel_rfl) rfl (bytes_at _ _ (by omega))) ?_
      refine LW.q rfl (Qt.lss rfl rfl) ?_
      refine LW.q rfl (Qt.assign rfl) ?_
      refine LW.done ?_
      first | refine T.condT rfl ?_ | refine T.condPT rfl (by omega) ?_ | refine T.condBT rfl (by omega) ?_
      refine T.region ?_
      first | refine LW.q rfl (Qt.load (by kernel_rfl) rfl rfl) ?_ | refine LW.q rfl (Qt.load (by kernel_rfl) rfl (map_at _ _ _ (by omega))) ?_ | refine LW.q rfl (Qt.load (by kernel_rfl) rfl (flat_cell0 _ _ _ (by intros; rfl) _ (by omega) (by rfl))) ?_ | refine LW.q rfl (Qt.load (by kernel_rfl) rfl (flat_cell _ _ _ (by intros; rfl) _ _ (by omega) (by rfl))) ?_ | refine LW.q rfl (Qt.load (by kernel_rfl) rfl (bytes_at _ _ (by omega))) ?_
      refine LW.q rfl (Qt.move rfl) ?_
      refine LW.e rfl (Ef.one [_] (e := 2) (sz := 1) (by kernel_rfl) ⟨.int .i64 0, by kernel_rfl, rfl⟩ rfl rfl rfl (by omega) (by omega) ?_)
      intro g42
      refine LW.e rfl (Ef.append Ri.elemZ rfl rfl (SrcOf.blk (by kernel_rfl) rfl (by simp [Value.oneCell'])) (by unfold maxLen; omega) (by omega) ?_)
      rintro p7 c7 hp7
      try simp only [List.cons_append, List.nil_append]
      rw [show A.map iV ++ [Value.int .i64 ((E[j] : Nat) : Int)] = (A ++ [((E[j] : Nat) : Int)]).map iV by simp]
      refine LW.e0 rfl (Ef.store1 (by kernel_rfl) rfl rfl rfl (by first | (simp; done) | (simp; omega)) ?_)
      try simp only [List.set_cons_zero, List.set_cons_succ]
      refine LW.done ?_
      refine T.region ?_
      refine LW.q rfl (Qt.add rfl rfl (wr64 (by omega) (by omega))) ?_
      refine LW.q rfl (Qt.move rfl) ?_
      refine LW.done ?_
      refine ⟨_, ?_, _, ⟨_, j + 1, A ++ [((E[j] : Nat) : Int)], R, n1 + 1, n2, p7, c7, p2, c2, ⟨by omega, by rw [hsn, rawL_snoc, if_pos hxl, ← hA2], by rw [hsn, rawR_snoc, if_neg (by omega), ← hR2], by simp [hn3], hn4⟩, rfl, (updS rfl (updS rfl (updS rfl (updS rfl (updS rfl (updS rfl (updS rfl (updS rfl rfl)))))))), rfl⟩, Sub.any⟩
      first | omega | (simp; omega)
     ·
      refine T.skip ?_
      refine T.seq ?_
      refine T.block ?_
      refine T.seq ?_
      refine T.region ?_
      refine LW.q rfl (Qt.index j (e := 2) (sz := 1) (by kernel_rfl) rfl rfl rfl hjl') ?_
      refine LW.q rfl (Qt.load (v := .int .i64 (E[j] : Nat)) (by kernel_rfl) rfl (by simp [hjl'])) ?_
      refine LW.q rfl (Qt.assign rfl) ?_
      refine LW.done ?_
      refine T.block ?_
      refine T.seq ?_
      refine T.region ?_
      refine LW.q rfl (Qt.move rfl) ?_
      refine LW.q rfl (Qt.fieldAddr0 (by kernel_rfl) rfl) ?_
      first | refine LW.q rfl (Qt.load (by kernel_rfl) rfl rfl) ?_ | refine LW.q rfl (Qt.load (by kernel_rfl) rfl (map_at _ _ _ (by omega))) ?_ | refine LW.q rfl (Qt.load (by kernel_rfl) rfl (flat_cell0 _ _ _ (by intros; rfl) _ (by omega) (by rfl))) ?_ | refine LW.q rfl (Qt.load (by kernel_rfl) rfl (flat_cell _ _ _ (by intros; rfl) _ _ (by omega) (by rfl))) ?_ | refine LW.q rfl (Qt.load (by kernel_rfl) rfl (bytes_at _ _ (by omega))) ?_
      refine LW.q rfl (Qt.lss rfl rfl) ?_
      refine LW.q rfl (Qt.assign rfl) ?_
      refine LW.done ?_
      first | refine T.condF rfl ?_ | refine T.condPF rfl (by omega) ?_ | refine T.condBF rfl (by omega) ?_
      by_cases hxr : b ≤ E[j]
      ·
       refine T.seq ?_
       refine T.region ?_
       refine LW.q rfl (Qt.move rfl) ?_
       refine LW.q rfl (Qt.fieldAddr (off := 1) (by kernel_rfl) rfl) ?_
       first | refine LW.q rfl (Qt.load (by kernel_rfl) rfl rfl) ?_ | refine LW.q rfl (Qt.load (by kernel_rfl) rfl (map_at _ _ _ (by omega))) ?_ | refine LW.q rfl (Qt.load (by kernel_rfl) rfl (flat_cell0 _ _ _ (by intros; rfl) _ (by omega) (by rfl))) ?_ | refine LW.q rfl (Qt.load (by kernel_rfl) rfl (flat_cell _ _ _ (by intros; rfl) _ _ (by omega) (by rfl))) ?_ | refine LW.q rfl (Qt.load (by kernel_rfl) rfl (bytes_at _ _ (by omega))) ?_
       refine LW.q rfl (Qt.geq rfl rfl) ?_
       refine LW.q rfl (Qt.assign rfl) ?_
       refine LW.done ?_
       first | refine T.condT rfl ?_ | refine T.condPT rfl (by omega) ?_ | refine T.condBT rfl (by omega) ?_
       refine T.region ?_
       first | refine LW.q rfl (Qt.load (by kernel_rfl) rfl rfl) ?_ | refine LW.q rfl (Qt.load (by kernel_rfl) rfl (map_at _ _ _ (by omega))) ?_ | refine LW.q rfl (Qt.load (by kernel_rfl) rfl (flat_cell0 _ _ _ (by intros; rfl) _ (by omega) (by rfl))) ?_ | refine LW.q rfl (Qt.load (by kernel_rfl) rfl (flat_cell _ _ _ (by intros; rfl) _ _ (by omega) (by rfl))) ?_ | refine LW.q rfl (Qt.load (by kernel_rfl) rfl (bytes_at _ _ (by omega))) ?_
       refine LW.q rfl (Qt.move rfl) ?_
       refine LW.e rfl (Ef.one [_] (e := 2) (sz := 1) (by kernel_rfl) ⟨.int .i64 0, by kernel_rfl, rfl⟩ rfl rfl rfl (by omega) (by omega) ?_)
       intro g51
       refine LW.e rfl (Ef.append Ri.elemZ rfl rfl (SrcOf.blk (by kernel_rfl) rfl (by simp [Value.oneCell'])) (by unfold maxLen; omega) (by omega) ?_)
       rintro p7 c7 hp7
       try simp only [List.cons_append, List.nil_append]
       rw [show R.map iV ++ [Value.int .i64 ((E[j] : Nat) : Int)] = (R ++ [((E[j] : Nat) : Int)]).map iV by simp]
       refine LW.e0 rfl (Ef.store1 (by kernel_rfl) rfl rfl rfl (by first | (simp; done) | (simp; omega)) ?_)
       try simp only [List.set_cons_zero, List.set_cons_succ]
       refine LW.done ?_
       refine T.region ?_
       refine LW.q rfl (Qt.add rfl rfl (wr64 (by omega) (by omega))) ?_
       refine LW.q rfl (Qt.move rfl) ?_
       refine LW.done ?_
       refine ⟨_, ?_, _, ⟨_, j + 1, A, R ++ [((E[j] : Nat) : Int)], n1, n2 + 1, p1, c1, p7, c7, ⟨by omega, by rw [hsn, rawL_snoc, if_neg hxl, ← hA2], by rw [hsn, rawR_snoc, if_pos hxr, ← hR2], hn3, by simp [hn4]⟩, rfl, (updS rfl (updS rfl (updS rfl (updS rfl (updS rfl (updS rfl (updS rfl (updS rfl rfl)))))))), rfl⟩, Sub.any⟩
       first | omega | (simp; omega)
      ·
       refine T.seq ?_
       refine T.region ?_
       refine LW.q rfl (Qt.move rfl) ?_
       refine LW.q rfl (Qt.fieldAddr (off := 1) (by kernel_rfl) rfl) ?_
       first | refine LW.q rfl (Qt.load (by kernel_rfl) rfl rfl) ?_ | refine LW.q rfl (Qt.load (by kernel_rfl) rfl (map_at _ _ _ (by omega))) ?_ | refine LW.q rfl (Qt.load (by kernel_rfl) rfl (flat_cell0 _ _ _ (by intros; rfl) _ (by omega) (by rfl))) ?_ | refine LW.q rfl (Qt.load (by kernel_rfl) rfl (flat_cell _ _ _ (by intros; rfl) _ _ (by omega) (by rfl))) ?_ | refine LW.q rfl (Qt.load (by kernel_rfl) rfl (bytes_at _ _ (by omega))) ?_
       refine LW.q rfl (Qt.geq rfl rfl) ?_
       refine LW.q rfl (Qt.assign rfl) ?_
       refine LW.done ?_
       first | refine T.condF rfl ?_ | refine T.condPF rfl (by omega) ?_ | refine T.condBF rfl (by omega) ?_
       refine T.skip ?_
       refine T.region ?_
       refine LW.q rfl (Qt.add rfl rfl (wr64 (by omega) (by omega))) ?_
       refine LW.q rfl (Qt.move rfl) ?_
       refine LW.done ?_
       refine ⟨_, ?_, _, ⟨_, j + 1, A, R, n1, n2, p1, c1, p2, c2, ⟨by omega, by rw [hsn, rawL_snoc, if_neg hxl, ← hA2], by rw [hsn, rawR_snoc, if_neg hxr, ← hR2], hn3, hn4⟩, rfl, (updS rfl (updS rfl (updS rfl (updS rfl (updS rfl (updS rfl (updS rfl (updS rfl rfl)))))))), rfl⟩, Sub.any⟩
       first | omega | (simp; omega)
    ·
     have ejl : E.take j = E := List.take_of_length_le (by omega)
     rw [ejl, hE, ends_next hlt'] at hA2 hR2
     refine T.exit ?_
     refine T.region ?_
     refine LW.q rfl (Qt.add rfl rfl (wr64 (by omega) (by omega))) ?_
     refine LW.q rfl (Qt.move rfl) ?_
     refine LW.done ?_
     refine ⟨_, ?_, _, ⟨_, i + 1, A, R, n1, n2, p1, c1, p2, c2, ⟨by omega, hA2, hR2, hn3, hn4⟩, rfl, (updS rfl (updS rfl (updS rfl (updS rfl (updS rfl rfl))))), rfl⟩, Sub.any⟩
     first | omega | (simp; omega)
  ·
   obtain rfl : i = 2 := by omega
   have e2 : endsI a b 2 = endsN a b := rfl
   rw [e2] at hA hR
   have hlA := rawL_len (endsN a b) a
   have hlR := rawR_len (endsN a b) b
   have hl84 := ends_len a b 2
   rw [e2] at hl84
   rw [← hA] at hlA
   rw [← hR] at hlR
   have hnl := nodes_left (a := a) (b := b) (by omega)
   have hnr := nodes_right (a := a) (b := b) (by omega)
   rw [← hA] at hnl
   rw [← hR] at hnr
   refine T.exit ?_
   refine T.seq ?_
   refine T.seq ?_
   refine T.region ?_
   refine LW.e rfl (Ef.lit [_, _] (e := 117) (by kernel_rfl) (by kernel_rfl) rfl (by simp [Value.cells]) rfl (by omega) (by omega) ?_)
   intro g55
   refine LW.q rfl (Qt.len (e := 117) (sz := 1) (by kernel_rfl) rfl) ?_
   refine LW.q rfl (Qt.move rfl) ?_
   refine LW.done ?_
   refine T.block ?_
   refine T.loop (fun mz fz lz => ∃ (f0 : Fr) (i : Nat) (X Y : List Int) (n1 n2 : Nat) (p1 : Option Addr) (c1 : Nat) (p2 : Option Addr) (c2 : Nat), (i ≤ 2 ∧ X = (if i = 0 then A else leftZ a) ∧ Y = (if i < 2 then R else rightZ b) ∧ X.length = n1 ∧ Y.length = n2) ∧ mz = 2 - i ∧ fz = (upd (upd (upd (upd (upd f0 2 (pV g2)) 3 (pV g3)) 55 (.slice (some ⟨g55, 0, none⟩) 2 2)) 56 (.int .i64 2)) 57 (.int .i64 i)) ∧ lz = blk g55 [pV g2, pV g3] 117 :: blk g2 [.slice p1 n1 c1] 62 :: blk g3 [.slice p2 n2 c2] 62 :: rZ p1 n1 c1 X :: rZ p2 n2 c2 Y :: F) ?_ ?_
   · refine ⟨_, _, ⟨_, 0, A, R, n1, n2, p1, c1, p2, c2, ⟨by omega, rfl, rfl, hn1, hn2⟩, rfl, (updS rfl (updS rfl (updS rfl (updS rfl (updS rfl rfl))))), rfl⟩, Sub.any⟩
   ·
    rintro mz fz lz ⟨f0, i, X, Y, n1, n2, p1, c1, p2, c2, ⟨hi, hX, hY, hm1, hm2⟩, hmz, rfl, rfl⟩
    subst mz
    try simp only [List.cons_append, List.nil_append]
    refine T.seq ?_
    refine T.region ?_
    refine LW.q rfl (Qt.lss rfl rfl) ?_
    refine LW.done ?_
    refine T.seq ?_
    refine T.condP rfl (fun hlt2 => ?_) (fun hlt2 => ?_)
    ·
     by_cases hi0 : i = 0
     ·
      subst hi0
      rw [if_pos rfl] at hX
      rw [if_pos (by omega)] at hY
      subst hX; subst hY
      refine T.skip ?_
      refine T.seq ?_
      refine T.block ?_
      refine T.seq ?_
      refine T.region ?_
      refine LW.q rfl (Qt.index 0 (e := 117) (sz := 1) (by kernel_rfl) rfl rfl rfl (by omega)) ?_
      refine LW.q rfl (Qt.load (v := pV g2) (by kernel_rfl) rfl rfl) ?_
      refine LW.q rfl (Qt.assign rfl) ?_
      refine LW.done ?_
      refine T.seq ?_
      refine T.region ?_
      refine LW.q rfl (Qt.move rfl) ?_
      refine LW.q rfl (Qt.nilCheck rfl) ?_
      first | refine LW.q rfl (Qt.load (by kernel_rfl) rfl rfl) ?_ | refine LW.q rfl (Qt.load (by kernel_rfl) rfl (map_at _ _ _ (by omega))) ?_ | refine LW.q rfl (Qt.load (by kernel_rfl) rfl (flat_cell0 _ _ _ (by intros; rfl) _ (by omega) (by rfl))) ?_ | refine LW.q rfl (Qt.load (by kernel_rfl) rfl (flat_cell _ _ _ (by intros; rfl) _ _ (by omega) (by rfl))) ?_ | refine LW.q rfl (Qt.load (by kernel_rfl) rfl (bytes_at _ _ (by omega))) ?_
      refine LW.e rfl (Ef.call (Ri.sort B p1 n1 c1 X hm1 (by omega)) Try.func59 rfl rfl rfl ?_)
      rintro _ _ ⟨rfl, rfl⟩
      try simp only [List.cons_append, List.nil_append]
      refine LW.done ?_
      refine T.region ?_
      refine LW.q rfl (Qt.move rfl) ?_
      refine LW.q rfl (Qt.move rfl) ?_
      refine LW.q rfl (Qt.nilCheck rfl) ?_
      first | refine LW.q rfl (Qt.load (by kernel_rfl) rfl rfl) ?_ | refine LW.q rfl (Qt.load (by kernel_rfl) rfl (map_at _ _ _ (by omega))) ?_ | refine LW.q rfl (Qt.load (by kernel_rfl) rfl (flat_cell0 _ _ _ (by intros; rfl) _ (by omega) (by rfl))) ?_ | refine LW.q rfl (Qt.load (by kernel_rfl) rfl (flat_cell _ _ _ (by intros; rfl) _ _ (by omega) (by rfl))) ?_ | refine LW.q rfl (Qt.load (by kernel_rfl) rfl (bytes_at _ _ (by omega))) ?_
      refine LW.e rfl (Ef.call (Sl.compact B p1 n1 c1 (srtZ X) (by rw [List.length_mergeSort]; exact hm1) (by omega)) Try.func60 rfl rfl rfl ?_)
      rintro _ _ ⟨rfl, rfl⟩
      try simp only [List.cons_append, List.nil_append]
      rw [hnl]
      refine LW.q rfl (Qt.nilCheck rfl) ?_
      refine LW.e0 rfl (Ef.store1 (by kernel_rfl) rfl rfl rfl (by first | (simp; done) | (simp; omega)) ?_)
      try simp only [List.set_cons_zero, List.set_cons_succ]
      refine LW.done ?_
      refine T.region ?_
      refine LW.q rfl (Qt.add rfl rfl (wr64 (by omega) (by omega))) ?_
      refine LW.q rfl (Qt.move rfl) ?_
      refine LW.done ?_
      refine ⟨_, ?_, _, ⟨_, 0 + 1, leftZ a, Y, (leftZ a).length, n2, p1, c1, p2, c2, ⟨by omega, rfl, rfl, rfl, hm2⟩, rfl, (updS rfl (updS rfl (updS rfl (updS rfl (updS rfl rfl))))), rfl⟩, Sub.any⟩
      first | omega | (simp; omega)
     ·
      obtain rfl : i = 1 := by omega
      rw [if_neg hi0] at hX
      rw [if_pos (by omega)] at hY
      subst hX; subst hY
      refine T.skip ?_
      refine T.seq ?_
      refine T.block ?_
      refine T.seq ?_
      refine T.region ?_
      refine LW.q rfl (Qt.index 1 (e := 117) (sz := 1) (by kernel_rfl) rfl rfl rfl (by omega)) ?_
      refine LW.q rfl (Qt.load (v := pV g3) (by kernel_rfl) rfl rfl) ?_
      refine LW.q rfl (Qt.assign rfl) ?_
      refine LW.done ?_
      refine T.seq ?_
      refine T.region ?_
      refine LW.q rfl (Qt.move rfl) ?_
      refine LW.q rfl (Qt.nilCheck rfl) ?_
      first | refine LW.q rfl (Qt.load (by kernel_rfl) rfl rfl) ?_ | refine LW.q rfl (Qt.load (by kernel_rfl) rfl (map_at _ _ _ (by omega))) ?_ | refine LW.q rfl (Qt.load (by kernel_rfl) rfl (flat_cell0 _ _ _ (by intros; rfl) _ (by omega) (by rfl))) ?_ | refine LW.q rfl (Qt.load (by kernel_rfl) rfl (flat_cell _ _ _ (by intros; rfl) _ _ (by omega) (by rfl))) ?_ | refine LW.q rfl (Qt.load (by kernel_rfl) rfl (bytes_at _ _ (by omega))) ?_
      refine LW.e rfl (Ef.call (Ri.sort B p2 n2 c2 Y hm2 (by omega)) Try.func59 rfl rfl rfl ?_)
      rintro _ _ ⟨rfl, rfl⟩
      try simp only [List.cons_append, List.nil_append]
      refine LW.done ?_
      refine T.region ?_
      refine LW.q rfl (Qt.move rfl) ?_
      refine LW.q rfl (Qt.move rfl) ?_
      refine LW.q rfl (Qt.nilCheck rfl) ?_
      first | refine LW.q rfl (Qt.load (by kernel_rfl) rfl rfl) ?_ | refine LW.q rfl (Qt.load (by kernel_rfl) rfl (map_at _ _ _ (by omega))) ?_ | refine LW.q rfl (Qt.load (by kernel_rfl) rfl (flat_cell0 _ _ _ (by intros; rfl) _ (by omega) (by rfl))) ?_ | refine LW.q rfl (Qt.load (by kernel_rfl) rfl (flat_cell _ _ _ (by intros; rfl) _ _ (by omega) (by rfl))) ?_ | refine LW.q rfl (Qt.load (by kernel_rfl) rfl (bytes_at _ _ (by omega))) ?_
      refine LW.e rfl (Ef.call (Sl.compact B p2 n2 c2 (srtZ Y) (by rw [List.length_mergeSort]; exact hm2) (by omega)) Try.func60 rfl rfl rfl ?_)
      rintro _ _ ⟨rfl, rfl⟩
      try simp only [List.cons_append, List.nil_append]
      rw [hnr]
      refine LW.q rfl (Qt.nilCheck rfl) ?_
      refine LW.e0 rfl (Ef.store1 (by kernel_rfl) rfl rfl rfl (by first | (simp; done) | (simp; omega)) ?_)
      try simp only [List.set_cons_zero, List.set_cons_succ]
      refine LW.done ?_
      refine T.region ?_
      refine LW.q rfl (Qt.add rfl rfl (wr64 (by omega) (by omega))) ?_
      refine LW.q rfl (Qt.move rfl) ?_
      refine LW.done ?_
      refine ⟨_, ?_, _, ⟨_, 1 + 1, leftZ a, rightZ b, n1, (rightZ b).length, p1, c1, p2, c2, ⟨by omega, rfl, rfl, hm1, rfl⟩, rfl, (updS rfl (updS rfl (updS rfl (updS rfl (updS rfl rfl))))), rfl⟩, Sub.any⟩
      first | omega | (simp; omega)
    ·
     obtain rfl : i = 2 := by omega
     rw [if_neg (by omega)] at hX hY
     subst hX; subst hY; subst hm1; subst hm2
     refine T.exit ?_
     refine T.seq ?_
     refine T.region ?_
     first | refine LW.q rfl (Qt.load (by kernel_rfl) rfl rfl) ?_ | refine LW.q rfl (Qt.load (by kernel_rfl) rfl (map_at _ _ _ (by omega))) ?_ | refine LW.q rfl (Qt.load (by kernel_rfl) rfl (flat_cell0 _ _ _ (by intros; rfl) _ (by omega) (by rfl))) ?_ | refine LW.q rfl (Qt.load (by kernel_rfl) rfl (flat_cell _ _ _ (by intros; rfl) _ _ (by omega) (by rfl))) ?_ | refine LW.q rfl (Qt.load (by kernel_rfl) rfl (bytes_at _ _ (by omega))) ?_
     first | refine LW.q rfl (Qt.load (by kernel_rfl) rfl rfl) ?_ | refine LW.q rfl (Qt.load (by kernel_rfl) rfl (map_at _ _ _ (by omega))) ?_ | refine LW.q rfl (Qt.load (by kernel_rfl) rfl (flat_cell0 _ _ _ (by intros; rfl) _ (by omega) (by rfl))) ?_ | refine LW.q rfl (Qt.load (by kernel_rfl) rfl (flat_cell _ _ _ (by intros; rfl) _ _ (by omega) (by rfl))) ?_ | refine LW.q rfl (Qt.load (by kernel_rfl) rfl (bytes_at _ _ (by omega))) ?_
     refine LW.e0 rfl (Ef.store1 (by kernel_rfl) rfl rfl rfl (by first | (simp; done) | (simp; omega)) ?_)
     try simp only [List.set_cons_zero, List.set_cons_succ]
     refine LW.e0 rfl (Ef.store1 (by kernel_rfl) rfl rfl rfl (by first | (simp; done) | (simp; omega)) ?_)
     try simp only [List.set_cons_zero, List.set_cons_succ]
     refine LW.q rfl (Qt.assign rfl) ?_
     refine LW.done ?_
     refine T.ret ?_
     exact ⟨.inl rfl, _, _, res [_, _, _] rfl ⟨rvC (by kernel_rfl) rfl rfl, rvC (by kernel_rfl) rfl rfl, rvT rfl, trivial⟩, ⟨p1, c1, p2, c2, rfl, rfl⟩, Sub.any⟩
end Go.Proofs.Ytefognjcognknaa

/- btree: find, leaf, most, least, Len, New, Get. Conditions: sizes; that the keys rise. -/
set_option linter.unusedSimpArgs false
set_option linter.unusedVariables false
namespace Go.Proofs.Ytefognjcognknaa
open Go.RowKit
theorem Bt.find (B : Base) (x : Nd) (m : Nat) (key : Str) (hr : Rise x.ks) (hb : x.kv.length < 2 ^ 40) :
    Fn Try.prog B 44 #[pV x.p, kT key] [ndB x m, ndK x] (fun u l => u = .tuple #[.int .i64 (spot x.ks key), .bool (decide (x.ks[spot x.ks key]? = some key))] ∧ l = [ndB x m, ndK x]) := by
  refine Fn.enter2 14 Try.func44 rfl rfl (Nat.le_of_ble_eq_true rfl) (fun F => ?_)
  try simp only [List.cons_append, List.nil_append]
  refine T.own fun w0 ho0 => ?_
  have hp := (ho0.slice_at (p := x.ka) (m := x.kv.length) (c := x.kc) (k := x.kv.length)).2.1
  clear ho0
  refine T.seq ?_
  refine T.region ?_
  refine LW.q rfl (Qt.assign rfl) ?_
  refine LW.q rfl (Qt.assign rfl) ?_
  refine LW.done ?_
  refine T.seq ?_
  refine T.region ?_
  refine LW.q rfl (Qt.move rfl) ?_
  refine LW.q rfl (Qt.nilCheck rfl) ?_
  refine LW.q rfl (Qt.fieldAddr0 (by kernel_rfl) rfl) ?_
  first | refine LW.q rfl (Qt.load (by kernel_rfl) rfl rfl) ?_ | refine LW.q rfl (Qt.load (by kernel_rfl) rfl (map_at _ _ _ (by omega))) ?_ | refine LW.q rfl (Qt.load (by kernel_rfl) rfl (flat_cell0 _ _ _ (by intros; rfl) _ (by omega) (by rfl))) ?_ | refine LW.q rfl (Qt.load (by kernel_rfl) rfl (flat_cell _ _ _ (by intros; rfl) _ _ (by omega) (by rfl))) ?_ | refine LW.q rfl (Qt.load (by kernel_rfl) rfl (bytes_at _ _ (by omega))) ?_
  refine LW.q rfl (Qt.move rfl) ?_
  refine LW.e rfl (Ef.call (Bs.search B [ndK x] (.slice x.ka x.kv.length x.kc) x.ks key x.kv.length (by simp) (RdV.ofRow (e := 9) (fun _ ho => ho.row_owns) (by simp) hp) hr hb) Try.func72 rfl rfl rfl ?_)
  rintro _ _ ⟨rfl, rfl⟩
  try simp only [List.cons_append, List.nil_append]
  refine LW.q rfl (Qt.extr rfl rfl) ?_
  refine LW.q rfl (Qt.extr rfl rfl) ?_
  refine LW.q rfl (Qt.assign rfl) ?_
  refine LW.q rfl (Qt.assign rfl) ?_
  refine LW.done ?_
  refine T.ret ?_
  exact ⟨.inl rfl, _, _, res [_, _] rfl ⟨rvT rfl, rvT rfl, trivial⟩, ⟨rfl, rfl⟩, Sub.any⟩
theorem Bt.leaf (B : Base) (x : Nd) (m : Nat) : Fn Try.prog B 45 #[pV x.p] [ndB x m] (fun u l => u = .bool (decide ((m : Int) = 0)) ∧ l = [ndB x m]) := by
  refine Fn.enter1 9 Try.func45 rfl rfl (Nat.le_of_ble_eq_true rfl) (fun F => ?_)
  try simp only [List.cons_append, List.nil_append]
  refine T.seq ?_
  refine T.region ?_
  refine LW.q rfl (Qt.assign rfl) ?_
  refine LW.done ?_
  refine T.seq ?_
  refine T.region ?_
  refine LW.q rfl (Qt.move rfl) ?_
  refine LW.q rfl (Qt.nilCheck rfl) ?_
  refine LW.q rfl (Qt.fieldAddr (off := 2) (by kernel_rfl) rfl) ?_
  first | refine LW.q rfl (Qt.load (by kernel_rfl) rfl rfl) ?_ | refine LW.q rfl (Qt.load (by kernel_rfl) rfl (map_at _ _ _ (by omega))) ?_ | refine LW.q rfl (Qt.load (by kernel_rfl) rfl (flat_cell0 _ _ _ (by intros; rfl) _ (by omega) (by rfl))) ?_ | refine LW.q rfl (Qt.load (by kernel_rfl) rfl (flat_cell _ _ _ (by intros; rfl) _ _ (by omega) (by rfl))) ?_ | refine LW.q rfl (Qt.load (by kernel_rfl) rfl (bytes_at _ _ (by omega))) ?_
  refine LW.q rfl (Qt.len (e := 95) (sz := 1) (by kernel_rfl) rfl) ?_
  refine LW.q rfl (Qt.eql rfl rfl) ?_
  refine LW.q rfl (Qt.assign rfl) ?_
  refine LW.done ?_
  refine T.ret ?_
  exact ⟨.inl rfl, _, _, res [_] rfl ⟨rvT rfl, trivial⟩, ⟨rfl, rfl⟩, Sub.any⟩
theorem Bt.most (B : Base) (o : Nat) (ho : o < 2 ^ 40) : Fn Try.prog B 42 #[.agg #[.int .i64 o]] [] (fun u l => u = .int .i64 (2 * o - 1) ∧ l = []) := by
  refine Fn.enter1 7 Try.func42 rfl rfl (Nat.le_of_ble_eq_true rfl) (fun F => ?_)
  try simp only [List.cons_append, List.nil_append]
  refine T.seq ?_
  refine T.region ?_
  refine LW.e rfl (Ef.box [_] rfl rfl ?_)
  intro g1
  refine LW.q rfl (Qt.assign rfl) ?_
  refine LW.done ?_
  refine T.seq ?_
  refine T.region ?_
  refine LW.q rfl (Qt.fieldAddr0 (by kernel_rfl) rfl) ?_
  first | refine LW.q rfl (Qt.load (by kernel_rfl) rfl rfl) ?_ | refine LW.q rfl (Qt.load (by kernel_rfl) rfl (map_at _ _ _ (by omega))) ?_ | refine LW.q rfl (Qt.load (by kernel_rfl) rfl (flat_cell0 _ _ _ (by intros; rfl) _ (by omega) (by rfl))) ?_ | refine LW.q rfl (Qt.load (by kernel_rfl) rfl (flat_cell _ _ _ (by intros; rfl) _ _ (by omega) (by rfl))) ?_ | refine LW.q rfl (Qt.load (by kernel_rfl) rfl (bytes_at _ _ (by omega))) ?_
  refine LW.q rfl (Qt.mul rfl rfl (wr64 (by omega) (by omega))) ?_
  refine LW.q rfl (Qt.sub rfl rfl (wr64 (by omega) (by omega))) ?_
  refine LW.q rfl (Qt.assign rfl) ?_
  refine LW.done ?_
  refine T.ret ?_
  exact ⟨.inl rfl, _, _, res [_] rfl ⟨rvT rfl, trivial⟩, ⟨rfl, rfl⟩, Sub.any⟩
theorem Bt.least (B : Base) (o : Nat) (ho : o < 2 ^ 40) : Fn Try.prog B 80 #[.agg #[.int .i64 o]] [] (fun u l => u = .int .i64 (o - 1) ∧ l = []) := by
  refine Fn.enter1 6 Try.func80 rfl rfl (Nat.le_of_ble_eq_true rfl) (fun F => ?_)
  try simp only [List.cons_append, List.nil_append]
  refine T.seq ?_
  refine T.region ?_
  refine LW.e rfl (Ef.box [_] rfl rfl ?_)
  intro g1
  refine LW.q rfl (Qt.assign rfl) ?_
  refine LW.done ?_
  refine T.seq ?_
  refine T.region ?_
  refine LW.q rfl (Qt.fieldAddr0 (by kernel_rfl) rfl) ?_
  first | refine LW.q rfl (Qt.load (by kernel_rfl) rfl rfl) ?_ | refine LW.q rfl (Qt.load (by kernel_rfl) rfl (map_at _ _ _ (by omega))) ?_ | refine LW.q rfl (Qt.load (by kernel_rfl) rfl (flat_cell0 _ _ _ (by intros; rfl) _ (by omega) (by rfl))) ?_ | refine LW.q rfl (Qt.load (by kernel_rfl) rfl (flat_cell _ _ _ (by intros; rfl) _ _ (by omega) (by rfl))) ?_ | refine LW.q rfl (Qt.load (by kernel_rfl) rfl (bytes_at _ _ (by omega))) ?_
  refine LW.q rfl (Qt.sub rfl rfl (wr64 (by omega) (by omega))) ?_
  refine LW.q rfl (Qt.assign rfl) ?_
  refine LW.done ?_
  refine T.ret ?_
  exact ⟨.inl rfl, _, _, res [_] rfl ⟨rvT rfl, trivial⟩, ⟨rfl, rfl⟩, Sub.any⟩
end Go.Proofs.Ytefognjcognknaa

/- Lists of pairs that rise, and trees read in order. Conditions: none. -/
set_option linter.unusedSimpArgs false
set_option linter.unusedVariables false
namespace Go.Proofs.Ytefognjcognknaa
abbrev KV := Str × Int
/-- The keys rise. -/
abbrev Up (l : List KV) : Prop := l.Pairwise fun a b => sl a.1 b.1 = true
theorem Up.rise {l : List KV} (h : Up l) : Rise (l.map (·.1)) := List.pairwise_map.2 h
def getL (l : List KV) (key : Str) : Option Int := (l.find? fun p => p.1 == key).map (·.2)
def lefts {α : Type} : List (List α) → List α → List α
  | k :: ks, v :: vs => k ++ v :: lefts ks vs
  | _, _ => []
def rights {α : Type} : List α → List (List α) → List α
  | v :: vs, k :: ks => v :: (k ++ rights vs ks)
  | _, _ => []
theorem inter_split {α : Type} : ∀ (A : List (List α)) (k : List α) (Bs : List (List α)) (vs : List α), A.length ≤ vs.length → Bs.length = vs.length - A.length → inter (A ++ k :: Bs) vs = lefts A (vs.take A.length) ++ (k ++ rights (vs.drop A.length) Bs)
  | [], k, [], [], _, _ => by simp [inter, lefts, rights]
  | [], k, b :: Bs, [], _, h => by simp at h
  | [], k, [], v :: vs, _, h => by simp at h
  | [], k, b :: Bs, v :: vs, _, h => by
    have ih := inter_split [] b Bs vs (by simp) (by simpa using h)
    simp only [List.nil_append, List.length_nil, List.take_zero, List.drop_zero, lefts, rights] at ih ⊢
    rw [inter, ih]
  | a :: A, k, Bs, [], h, _ => by simp at h
  | a :: A, k, Bs, v :: vs, h, h2 => by
    have ih := inter_split A k Bs vs (by simpa using h) (by simp at h2; omega)
    simp only [List.cons_append, List.length_cons, List.take_succ_cons, List.drop_succ_cons, lefts]
    rw [inter, ih]
    simp
theorem lefts_lt : ∀ {A : List (List KV)} {vs : List KV} {key : Str}, Up (lefts A vs) → (∀ v ∈ vs, sl v.1 key = true) → ∀ y ∈ lefts A vs, sl y.1 key = true
  | [], _, _, _, _, y, hy => by simp [lefts] at hy
  | _ :: _, [], _, _, _, y, hy => by simp [lefts] at hy
  | a :: A, v :: vs, key, hu, hv, y, hy => by
    simp only [lefts] at hu hy
    have h1 := List.pairwise_append.1 hu
    have h2 := List.pairwise_cons.1 h1.2.1
    rcases List.mem_append.1 hy with h | h
    · exact sl_trans (h1.2.2 y h v (List.mem_cons_self ..)) (hv v (List.mem_cons_self ..))
    · rcases List.mem_cons.1 h with rfl | h
      · exact hv _ (List.mem_cons_self ..)
      · exact lefts_lt h2.2 (fun u hu => hv u (List.mem_cons_of_mem _ hu)) y h
theorem rights_ge : ∀ {vs : List KV} {Bs : List (List KV)} {key : Str}, Up (rights vs Bs) → (∀ v ∈ vs, sl v.1 key = false) → ∀ y ∈ rights vs Bs, sl y.1 key = false
  | [], _, _, _, _, y, hy => by simp [rights] at hy
  | _ :: _, [], _, _, _, y, hy => by simp [rights] at hy
  | v :: vs, b :: Bs, key, hu, hv, y, hy => by
    simp only [rights] at hu hy
    have h1 := List.pairwise_cons.1 hu
    have h2 := List.pairwise_append.1 h1.2
    rcases List.mem_cons.1 hy with rfl | h
    · exact hv _ (List.mem_cons_self ..)
    · rcases List.mem_append.1 h with h | h
      · refine Bool.eq_false_iff.2 fun e => ?_
        have := sl_trans (h1.1 y (List.mem_append_left _ h)) e
        rw [hv v (List.mem_cons_self ..)] at this; cases this
      · exact rights_ge h2.2.1 (fun u hu => hv u (List.mem_cons_of_mem _ hu)) y h
theorem getL_append {a b : List KV} {key : Str} (h : ∀ y ∈ a, y.1 ≠ key) : getL (a ++ b) key = getL b key := by
  unfold getL
  rw [List.find?_append, List.find?_eq_none.2 (fun y hy => by simpa using h y hy)]
  rfl
theorem getL_none {a : List KV} {key : Str} (h : ∀ y ∈ a, y.1 ≠ key) : getL a key = none := by
  unfold getL
  rw [List.find?_eq_none.2 (fun y hy => by simpa using h y hy)]
  rfl
theorem getL_left {a b : List KV} {key : Str} (h : ∀ y ∈ b, y.1 ≠ key) : getL (a ++ b) key = getL a key := by
  unfold getL
  rw [List.find?_append, List.find?_eq_none (l := b) |>.2 (fun y hy => by simpa using h y hy)]
  simp
theorem getL_at {l : List KV} {key : Str} (hu : Up l) {i : Nat} {p : KV} (hi : l[i]? = some p) (hk : p.1 = key) : getL l key = some p.2 := by
  obtain ⟨hlt, e⟩ := List.getElem?_eq_some_iff.1 hi
  have e2 : l = l.take i ++ p :: l.drop (i + 1) := by rw [← e, List.getElem_cons_drop, List.take_append_drop]
  rw [e2]
  rw [e2] at hu
  have h1 := List.pairwise_append.1 hu
  rw [getL_append (fun y hy e3 => by
    have := h1.2.2 y hy p (List.mem_cons_self ..)
    rw [e3, hk, sl_irrefl] at this; cases this)]
  simp [getL, hk]
theorem ne_of_sl {a b : Str} (h : sl a b = true) : a ≠ b := fun e => by rw [e, sl_irrefl] at h; cases h
end Go.Proofs.Ytefognjcognknaa

/- A node's place for a key, and what lies left and right of it. Conditions: that the tree's keys rise. -/
set_option linter.unusedSimpArgs false
set_option linter.unusedVariables false
namespace Go.Proofs.Ytefognjcognknaa
theorem rights_gt : ∀ {vs : List KV} {Bs : List (List KV)} {key : Str}, Up (rights vs Bs) → (∀ v ∈ vs, sl key v.1 = true) → ∀ y ∈ rights vs Bs, sl key y.1 = true
  | [], _, _, _, _, y, hy => by simp [rights] at hy
  | _ :: _, [], _, _, _, y, hy => by simp [rights] at hy
  | v :: vs, b :: Bs, key, hu, hv, y, hy => by
    simp only [rights] at hu hy
    have h1 := List.pairwise_cons.1 hu
    have h2 := List.pairwise_append.1 h1.2
    rcases List.mem_cons.1 hy with rfl | h
    · exact hv _ (List.mem_cons_self ..)
    · rcases List.mem_append.1 h with h | h
      · exact sl_trans (hv v (List.mem_cons_self ..)) (h1.1 y (List.mem_append_left _ h))
      · exact rights_gt h2.2.1 (fun u hu => hv u (List.mem_cons_of_mem _ hu)) y h
theorem inter_sub {α : Type} : ∀ (Ks : List (List α)) (vs : List α), vs.length ≤ Ks.length → vs.Sublist (inter Ks vs)
  | _, [], _ => List.nil_sublist _
  | [], _ :: _, h => by simp at h
  | k :: ks, v :: vs, h => by
    rw [inter]
    exact (List.Sublist.cons_cons v (inter_sub ks vs (by simpa using h))).trans (List.sublist_append_right _ _)
theorem keyAt (x : Nd) (i : Nat) : x.ks[i]? = (x.kv[i]?).map (·.1) := by simp [Nd.ks]
theorem spot_take {x : Nd} {key : Str} : ∀ v ∈ x.kv.take (spot x.ks key), sl v.1 key = true := by
  intro v hv
  obtain ⟨j, hj, rfl⟩ := List.getElem_of_mem hv
  have h1 : j < spot x.ks key := by simp at hj; omega
  rw [List.getElem_take]
  exact spot_lt h1 (by rw [keyAt, List.getElem?_eq_getElem (by simp at hj; omega)]; rfl)
theorem spot_drop {x : Nd} {key : Str} (hu : Up x.kv) : ∀ v ∈ x.kv.drop (spot x.ks key), sl v.1 key = false := by
  intro v hv
  obtain ⟨j, hj, rfl⟩ := List.getElem_of_mem hv
  have hjl : spot x.ks key + j < x.kv.length := by simp at hj; omega
  rw [List.getElem_drop]
  have h0 : sl (x.kv[spot x.ks key]'(by omega)).1 key = false := spot_at (ks := x.ks) (by rw [keyAt, List.getElem?_eq_getElem (by omega)]; rfl)
  cases j with
  | zero => exact h0
  | succ j =>
    refine Bool.eq_false_iff.2 fun e => ?_
    have := sl_trans (List.pairwise_iff_getElem.1 hu (spot x.ks key) (spot x.ks key + (j + 1)) (by omega) hjl (by omega)) e
    rw [h0] at this; cases this
theorem spot_drop' {x : Nd} {key : Str} (hu : Up x.kv) (hn : x.ks[spot x.ks key]? ≠ some key) : ∀ v ∈ x.kv.drop (spot x.ks key), sl key v.1 = true := by
  intro v hv
  obtain ⟨j, hj, rfl⟩ := List.getElem_of_mem hv
  have hjl : spot x.ks key + j < x.kv.length := by simp at hj; omega
  rw [List.getElem_drop]
  have h0 : sl (x.kv[spot x.ks key]'(by omega)).1 key = false := spot_at (ks := x.ks) (by rw [keyAt, List.getElem?_eq_getElem (by omega)]; rfl)
  have h1 : sl key (x.kv[spot x.ks key]'(by omega)).1 = true := by
    refine Bool.not_eq_false _ |>.mp fun e => ?_
    have := sl_tri h0 e
    exact hn (by rw [keyAt, List.getElem?_eq_getElem (by omega)]; simp [this])
  cases j with
  | zero => exact h1
  | succ j => exact sl_trans h1 (List.pairwise_iff_getElem.1 hu (spot x.ks key) (spot x.ks key + (j + 1)) (by omega) hjl (by omega))
/-- The kid at a place, and what lies left and right of it. -/
theorem kid_at {h : Nat} {x : Nd} {ks : List (LT h)} {i : Nat} (hl : ks.length = x.kv.length + 1) (hi : i ≤ x.kv.length) : ∃ L1 k L2, ks = L1 ++ k :: L2 ∧ L1.length = i ∧ L2.length = x.kv.length - i ∧
    inter (ks.map (toL h)) x.kv = lefts (L1.map (toL h)) (x.kv.take i) ++ (toL h k ++ rights (x.kv.drop i) (L2.map (toL h))) := by
  have hlt : i < ks.length := by omega
  refine ⟨ks.take i, ks[i], ks.drop (i + 1), by rw [List.getElem_cons_drop, List.take_append_drop], by simp; omega, by simp; omega, ?_⟩
  have e : ks = ks.take i ++ ks[i] :: ks.drop (i + 1) := by rw [List.getElem_cons_drop, List.take_append_drop]
  conv => lhs; rw [e]
  rw [List.map_append, List.map_cons]
  have hm : ((ks.take i).map (toL h)).length = i := by simp; omega
  rw [inter_split _ _ _ _ (by rw [hm]; exact hi) (by rw [hm]; simp; omega), hm]
structure Spot (h : Nat) (x : Nd) (ks : List (LT h)) (key : Str) (L1 : List (LT h)) (k : LT h) (L2 : List (LT h)) (l r : List KV) : Prop where
  eq : ks = L1 ++ k :: L2
  l1 : L1.length = spot x.ks key
  l2 : L2.length = x.kv.length - spot x.ks key
  is : inter (ks.map (toL h)) x.kv = l ++ (toL h k ++ r)
  lt : ∀ y ∈ l, sl y.1 key = true
  ge : ∀ y ∈ r, sl y.1 key = false
  gt : x.ks[spot x.ks key]? ≠ some key → ∀ y ∈ r, sl key y.1 = true
  up : Up (toL h k)
theorem spot_kid {h : Nat} {x : Nd} {ks : List (LT h)} (key : Str) (hu : Up (inter (ks.map (toL h)) x.kv)) (hl : ks.length = x.kv.length + 1) : ∃ L1 k L2 l r, Spot h x ks key L1 k L2 l r := by
  have hi : spot x.ks key ≤ x.kv.length := by have := spot_le x.ks key; simpa using this
  obtain ⟨L1, k, L2, e1, e2, e3, e4⟩ := kid_at hl hi
  have hkv : Up x.kv := hu.sublist (inter_sub _ _ (by simp; omega))
  rw [e4] at hu
  have h1 := List.pairwise_append.1 hu
  have h2 := List.pairwise_append.1 h1.2.1
  exact ⟨L1, k, L2, _, _, e1, e2, e3, e4, lefts_lt h1.1 spot_take, rights_ge h2.2.1 (spot_drop hkv), fun hn => rights_gt h2.2.1 (spot_drop' hkv hn), h2.1⟩
theorem get_kid {h : Nat} {x : Nd} {ks : List (LT h)} {key : Str} {L1 : List (LT h)} {k : LT h} {L2 : List (LT h)} {l r : List KV} (s : Spot h x ks key L1 k L2 l r) (hn : x.ks[spot x.ks key]? ≠ some key) : getL (inter (ks.map (toL h)) x.kv) key = getL (toL h k) key := by
  rw [s.is, getL_append (fun y hy => ne_of_sl (s.lt y hy)), getL_left (fun y hy => (ne_of_sl (s.gt hn y hy)).symm)]
theorem get_here {h : Nat} {x : Nd} {ks : List (LT h)} {key : Str} (hu : Up (inter (ks.map (toL h)) x.kv)) (hl : ks.length = x.kv.length + 1) {p : KV} (hp : x.kv[spot x.ks key]? = some p) (hk : p.1 = key) : getL (inter (ks.map (toL h)) x.kv) key = some p.2 := by
  have hm : p ∈ inter (ks.map (toL h)) x.kv := (inter_sub _ _ (by simp; omega)).subset (List.mem_of_getElem? hp)
  obtain ⟨j, hj⟩ := List.getElem?_of_mem hm
  exact getL_at hu hj hk
end Go.Proofs.Ytefognjcognknaa

/- btree: Len, Get. Conditions: sizes; that the keys rise. -/
set_option linter.unusedSimpArgs false
set_option linter.unusedVariables false
namespace Go.Proofs.Ytefognjcognknaa
open Go.RowKit
abbrev trB (g o : Nat) (r : Nat) (cnt : Nat) : Assn := blk g [.int .i64 o, pV r, .int .i64 cnt] 100
theorem node_up {o : Nat} : ∀ {h : Nat} {r : Bool} {t : LT h}, okT o h r t → Up (toL h t) → Up (LT.nd h t).kv
  | 0, _, _, _, hu => hu
  | h + 1, _, t, hk, hu => hu.sublist (inter_sub (t.2.map (toL h)) t.1.kv (by rw [List.length_map, hk.2.2.2.1]; omega))
theorem node_len {o : Nat} : ∀ {h : Nat} {r : Bool} {t : LT h}, okT o h r t → (LT.nd h t).kv.length ≤ (toL h t).length
  | 0, _, _, _ => Nat.le_refl _
  | h + 1, _, t, hk => (inter_sub (t.2.map (toL h)) t.1.kv (by rw [List.length_map, hk.2.2.2.1]; omega)).length_le
theorem get_node {o : Nat} : ∀ {h : Nat} {r : Bool} {t : LT h} {key : Str} {p : KV}, okT o h r t → Up (toL h t) → (LT.nd h t).kv[spot (LT.nd h t).ks key]? = some p → p.1 = key → getL (toL h t) key = some p.2
  | 0, _, t, key, p, _, hu, hp, hk => getL_at (l := t.kv) hu hp hk
  | _ + 1, _, t, key, p, hk, hu, hp, e => get_here hu hk.2.2.2.1 hp e
theorem get_leaf {x : Nd} {key : Str} (hu : Up x.kv) (hn : x.ks[spot x.ks key]? ≠ some key) : getL x.kv key = none := by
  refine getL_none fun y hy e => ?_
  rw [← List.take_append_drop (spot x.ks key) x.kv] at hy
  rcases List.mem_append.1 hy with h | h
  · exact ne_of_sl (spot_take y h) e
  · exact ne_of_sl (spot_drop' hu hn y h) e.symm
theorem RdV.vs {B : Base} {x : Nd} (hp : 0 < x.kv.length → ∃ g, x.va = some ⟨g, 0, none⟩) : RdV B [ndV x] (.slice x.va x.kv.length x.vc) (x.vs.map iV) := RdV.ofRow (e := 2) (fun _ ho => ho.row_owns) (by simp) hp
theorem RdV.cs {B : Base} {x : Nd} {ps : List Nat} (hp : 0 < ps.length → ∃ g, x.ca = some ⟨g, 0, none⟩) : RdV B [ndC x ps] (.slice x.ca ps.length x.cc) (ps.map pV) := RdV.ofRow (e := 95) (fun _ ho => ho.row_owns) (by simp) hp
theorem Bt.len (B : Base) (g o r cnt : Nat) : Fn Try.prog B 18 #[pV g] [trB g o r cnt] (fun u l => u = .int .i64 cnt ∧ l = [trB g o r cnt]) := by
  refine Fn.enter1 7 Try.func18 rfl rfl (Nat.le_of_ble_eq_true rfl) (fun F => ?_)
  try simp only [List.cons_append, List.nil_append]
  refine T.seq ?_
  refine T.region ?_
  refine LW.q rfl (Qt.assign rfl) ?_
  refine LW.done ?_
  refine T.seq ?_
  refine T.region ?_
  refine LW.q rfl (Qt.move rfl) ?_
  refine LW.q rfl (Qt.nilCheck rfl) ?_
  refine LW.q rfl (Qt.fieldAddr (off := 2) (by kernel_rfl) rfl) ?_
  first | refine LW.q rfl (Qt.load (by kernel_rfl) rfl rfl) ?_ | refine LW.q rfl (Qt.load (by kernel_rfl) rfl (map_at _ _ _ (by omega))) ?_ | refine LW.q rfl (Qt.load (by kernel_rfl) rfl (flat_cell0 _ _ _ (by intros; rfl) _ (by omega) (by rfl))) ?_ | refine LW.q rfl (Qt.load (by kernel_rfl) rfl (flat_cell _ _ _ (by intros; rfl) _ _ (by omega) (by rfl))) ?_ | refine LW.q rfl (Qt.load (by kernel_rfl) rfl (bytes_at _ _ (by omega))) ?_
  refine LW.q rfl (Qt.assign rfl) ?_
  refine LW.done ?_
  refine T.ret ?_
  exact ⟨.inl rfl, _, _, res [_] rfl ⟨rvT rfl, trivial⟩, ⟨rfl, rfl⟩, Sub.any⟩
theorem Has.whole {H h : Nat} {c : Cx H h} {t : LT h} {T0 : LT H} {m : List Assn} {k : Piece} (e : c.plug t = T0) (K : Has (ndB (LT.nd h t) (LT.kp h t).length :: ndK (LT.nd h t) :: ndV (LT.nd h t) :: ndC (LT.nd h t) (LT.kp h t) :: restA h t :: cxA c (LT.nd h t).p :: m) k) : Has (treeA H T0 :: m) k := by
  subst e
  exact Has.plug (Has.closeT K)
theorem Has.down {H h : Nat} {c : Cx H (h + 1)} {t : LT (h + 1)} {L1 L2 : List (LT h)} {q : LT h} {m : List Assn} {k : Piece} (e : LT.sub h t = L1 ++ q :: L2) (K : Has (ndB (LT.nd _ t) (LT.kp _ t).length :: ndK (LT.nd _ t) :: ndV (LT.nd _ t) :: ndC (LT.nd _ t) (LT.kp _ t) :: restA _ t :: cxA c (LT.nd _ t).p :: m) k) : Has (treeA h q :: cxA (.down c (LT.nd _ t) L1 L2) (LT.nd h q).p :: m) k := by
  obtain ⟨x, ks⟩ := t
  have e2 : ks = L1 ++ q :: L2 := e
  subst e2
  exact Has.descend K
theorem plug_down {H h : Nat} {c : Cx H (h + 1)} {t : LT (h + 1)} {L1 L2 : List (LT h)} {q : LT h} (e : LT.sub h t = L1 ++ q :: L2) : (Cx.down c (LT.nd _ t) L1 L2).plug q = c.plug t := by
  obtain ⟨x, ks⟩ := t
  have e2 : ks = L1 ++ q :: L2 := e
  subst e2
  rfl
/-- The kid in which a key would be. -/
theorem kid_for {o h : Nat} {r : Bool} {t : LT (h + 1)} {key : Str} (hk : okT o (h + 1) r t) (hu : Up (toL (h + 1) t)) (hn : (LT.nd _ t).ks[spot (LT.nd _ t).ks key]? ≠ some key) : ∃ L1 q L2, LT.sub h t = L1 ++ q :: L2 ∧ (LT.kp _ t)[spot (LT.nd _ t).ks key]? = some (LT.nd h q).p ∧ okT o h false q ∧ Up (toL h q) ∧ (toL h q).length ≤ (toL (h + 1) t).length ∧ getL (toL h q) key = getL (toL (h + 1) t) key := by
  obtain ⟨x, ks⟩ := t
  obtain ⟨L1, q, L2, lf, rg, sp⟩ := spot_kid (x := x) (ks := ks) key hu hk.2.2.2.1
  have e := sp.eq
  have e1 := sp.l1
  refine ⟨L1, q, L2, e, ?_, ?_, sp.up, ?_, (get_kid sp hn).symm⟩
  · show (ks.map fun k => (LT.nd h k).p)[spot x.ks key]? = _
    rw [e, ← e1]
    simp
  · exact hk.2.2.2.2 q (by show q ∈ ks; rw [e]; simp)
  · show _ ≤ (inter (ks.map (toL h)) x.kv).length
    rw [sp.is]; simp; omega
theorem leaf_none {o : Nat} : ∀ {h : Nat} {r : Bool} {t : LT h} {key : Str}, okT o h r t → Up (toL h t) → ((LT.kp h t).length : Int) = 0 → (LT.nd h t).ks[spot (LT.nd h t).ks key]? ≠ some key → getL (toL h t) key = none
  | 0, _, _, _, _, hu, _, hn => get_leaf hu hn
  | h + 1, _, t, _, hk, _, h0, _ => by
    have h1 := hk.2.2.2.1
    have : (LT.kp (h + 1) t).length = t.2.length := by show (t.2.map fun k => (LT.nd h k).p).length = _; simp
    omega
set_option maxHeartbeats 1000000 in
theorem Bt.get (B : Base) (g o cnt H : Nat) (t : LT H) (key : Str) (hok : okT o H true t) (hu : Up (toL H t)) (hb : (toL H t).length < 2 ^ 40) :
  Fn Try.prog B 25 #[pV g, kT key] [trB g o (LT.nd H t).p cnt, treeA H t] (fun u l => u = .tuple #[iV ((getL (toL H t) key).getD 0), .bool (getL (toL H t) key).isSome] ∧ l = [trB g o (LT.nd H t).p cnt, treeA H t]) := by
 refine Fn.enter2 38 Try.func25 rfl rfl (Nat.le_of_ble_eq_true rfl) (fun F => ?_)
 try simp only [List.cons_append, List.nil_append]
 refine T.seq ?_
 refine T.region ?_
 refine LW.q rfl (Qt.assign rfl) ?_
 refine LW.q rfl (Qt.assign rfl) ?_
 refine LW.done ?_
 refine T.seq ?_
 refine T.region ?_
 refine LW.q rfl (Qt.move rfl) ?_
 refine LW.q rfl (Qt.nilCheck rfl) ?_
 refine LW.q rfl (Qt.fieldAddr (off := 1) (by kernel_rfl) rfl) ?_
 first | refine LW.q rfl (Qt.load (by kernel_rfl) rfl rfl) ?_ | refine LW.q rfl (Qt.load (by kernel_rfl) rfl (map_at _ _ _ (by omega))) ?_ | refine LW.q rfl (Qt.load (by kernel_rfl) rfl (flat_cell0 _ _ _ (by intros; rfl) _ (by omega) (by rfl))) ?_ | refine LW.q rfl (Qt.load (by kernel_rfl) rfl (flat_cell _ _ _ (by intros; rfl) _ _ (by omega) (by rfl))) ?_ | refine LW.q rfl (Qt.load (by kernel_rfl) rfl (bytes_at _ _ (by omega))) ?_
 refine LW.q rfl (Qt.assign rfl) ?_
 refine LW.done ?_
 refine T.block ?_
 refine T.conv (l' := trB g o (LT.nd H t).p cnt :: treeA H t :: cxA (Cx.top : Cx H H) (LT.nd H t).p :: F) (fun w ho => ho.map fun _ K => Has.cons_imp (fun _ K => Has.cons_imp (fun _ K => Has.close_pu trivial K) K) K) ?_
 refine T.loop (fun mz fz lz => ∃ (f0 : Fr) (h : Nat) (t' : LT h) (c : Cx H h) (r : Bool), (c.plug t' = t ∧ okT o h r t' ∧ Up (toL h t') ∧ (toL h t').length < 2 ^ 40 ∧ getL (toL h t') key = getL (toL H t) key) ∧ mz = h ∧ fz = (upd (upd f0 1 (kT key)) 6 (pV (LT.nd h t').p)) ∧ lz = trB g o (LT.nd H t).p cnt :: treeA h t' :: cxA c (LT.nd h t').p :: F) ?_ ?_
 · refine ⟨_, _, ⟨_, H, t, .top, true, ⟨rfl, hok, hu, hb, rfl⟩, rfl, (updS rfl (updS rfl rfl)), rfl⟩, Sub.any⟩
 ·
  rintro mz fz lz ⟨f0, h, t', c, r, ⟨hpl, hk, hup, hlen, hget⟩, hmz, rfl, rfl⟩
  subst mz
  try simp only [List.cons_append, List.nil_append]
  refine T.conv (fun w ho => ho.map fun _ K => Has.cons_imp (fun _ K => Has.openT K) K) ?_
  simp only [List.cons_append, List.nil_append]
  refine T.own fun w0 ho0 => ?_
  have hpv := (ho0.slice_at (p := (LT.nd h t').va) (m := (LT.nd h t').kv.length) (c := (LT.nd h t').vc) (k := (LT.nd h t').kv.length)).2.1
  have hpc := (ho0.slice_at (p := (LT.nd h t').ca) (m := (LT.kp h t').length) (c := (LT.nd h t').cc) (k := (LT.kp h t').length)).2.1
  clear ho0
  refine T.block ?_
  refine T.seq ?_
  refine T.region ?_
  refine LW.q rfl (Qt.move rfl) ?_
  refine LW.q rfl (Qt.move rfl) ?_
  refine LW.e rfl (Ef.call (Bt.find B (LT.nd h t') (LT.kp h t').length key (node_up hk hup).rise (by have := node_len hk; omega)) Try.func44 rfl rfl rfl ?_)
  rintro _ _ ⟨rfl, rfl⟩
  try simp only [List.cons_append, List.nil_append]
  refine LW.q rfl (Qt.move rfl) ?_
  refine LW.q rfl (Qt.extr rfl rfl) ?_
  refine LW.q rfl (Qt.extr rfl rfl) ?_
  refine LW.q rfl (Qt.assign rfl) ?_
  refine LW.q rfl (Qt.assign rfl) ?_
  refine LW.done ?_
  refine T.seq ?_
  refine T.block ?_
  refine T.seq ?_
  refine T.region ?_
  refine LW.q rfl (Qt.move rfl) ?_
  refine LW.q rfl (Qt.assign rfl) ?_
  refine LW.done ?_
  refine T.condP rfl (fun hth => ?_) (fun hth => ?_)
  ·
   have hsl : spot (LT.nd h t').ks key < (LT.nd h t').kv.length := by have := (List.getElem?_eq_some_iff.1 hth).1; simpa using this
   have hat : (LT.nd h t').kv[spot (LT.nd h t').ks key]? = some (LT.nd h t').kv[spot (LT.nd h t').ks key] := List.getElem?_eq_getElem hsl
   have hke : ((LT.nd h t').kv[spot (LT.nd h t').ks key]).1 = key := by rw [keyAt, hat] at hth; simpa using hth
   obtain ⟨b0, o0, hva, hc0⟩ := (RdV.vs (B := B) hpv).at (by omega)
   refine T.seq ?_
   refine T.region ?_
   refine LW.q rfl (Qt.move rfl) ?_
   refine LW.q rfl (Qt.nilCheck rfl) ?_
   refine LW.q rfl (Qt.fieldAddr (off := 1) (by kernel_rfl) rfl) ?_
   refine LW.q rfl (Qt.load (v := .slice (some ⟨b0, o0, none⟩) (LT.nd h t').kv.length (LT.nd h t').vc) (by kernel_rfl) rfl (by rw [← hva]; rfl)) ?_
   refine LW.q rfl (Qt.move rfl) ?_
   refine LW.q rfl (Qt.index _ (e := 2) (sz := 1) (by kernel_rfl) rfl rfl rfl (by omega)) ?_
   refine LW.q rfl (Qt.loadW (v := iV ((LT.nd h t').kv[spot (LT.nd h t').ks key]).2) (by kernel_rfl) rfl (fun w ho => by have := hc0 (spot (LT.nd h t').ks key) (by simpa using hsl) w (ho.map Sub.any); simpa using this)) ?_
   refine LW.q rfl (Qt.assign rfl) ?_
   refine LW.q rfl (Qt.assign rfl) ?_
   refine LW.done ?_
   refine T.ret ?_
   exact ⟨.inl rfl, _, _, res [_, _] rfl ⟨rvT rfl, rvT rfl, trivial⟩, ⟨by rw [← hget, get_node hk hup hat hke]; rfl, rfl⟩, (fun k K => Has.swap (Has.whole (m := trB g o (LT.nd H t).p cnt :: F) hpl (Sub.any k K)))⟩
  ·
   refine T.seq ?_
   refine T.region ?_
   refine LW.q rfl (Qt.move rfl) ?_
   refine LW.e rfl (Ef.call (Bt.leaf B (LT.nd h t') (LT.kp h t').length) Try.func45 rfl rfl rfl ?_)
   rintro _ _ ⟨rfl, rfl⟩
   try simp only [List.cons_append, List.nil_append]
   refine LW.q rfl (Qt.assign rfl) ?_
   refine LW.done ?_
   refine T.condP rfl (fun hlf => ?_) (fun hlf => ?_)
   ·
    refine T.seq ?_
    refine T.region ?_
    refine LW.q rfl (Qt.assign rfl) ?_
    refine LW.q rfl (Qt.assign rfl) ?_
    refine LW.done ?_
    refine T.ret ?_
    exact ⟨.inl rfl, _, _, res [_, _] rfl ⟨rvT rfl, rvT rfl, trivial⟩, ⟨by rw [← hget, leaf_none hk hup hlf hth]; rfl, rfl⟩, (fun k K => Has.swap (Has.whole (m := trB g o (LT.nd H t).p cnt :: F) hpl (Sub.any k K)))⟩
   ·
    have hex : ∃ h', h = h' + 1 := by cases h with | zero => exact absurd rfl hlf | succ h' => exact ⟨h', rfl⟩
    obtain ⟨h', rfl⟩ := hex
    obtain ⟨L1, q, L2, hsub, hat, hkq, huq, hlq, hgq⟩ := kid_for hk hup hth
    have hsl : spot (LT.nd _ t').ks key < (LT.kp _ t').length := (List.getElem?_eq_some_iff.1 hat).1
    obtain ⟨b0, o0, hca, hc0⟩ := (RdV.cs (B := B) hpc).at (by omega)
    refine T.skip ?_
    refine T.region ?_
    refine LW.q rfl (Qt.move rfl) ?_
    refine LW.q rfl (Qt.nilCheck rfl) ?_
    refine LW.q rfl (Qt.fieldAddr (off := 2) (by kernel_rfl) rfl) ?_
    refine LW.q rfl (Qt.load (v := .slice (some ⟨b0, o0, none⟩) (LT.kp (h' + 1) t').length (LT.nd _ t').cc) (by kernel_rfl) rfl (by rw [← hca]; rfl)) ?_
    refine LW.q rfl (Qt.move rfl) ?_
    refine LW.q rfl (Qt.index _ (e := 95) (sz := 1) (by kernel_rfl) rfl rfl rfl (by omega)) ?_
    refine LW.q rfl (Qt.loadW (v := pV (LT.nd h' q).p) (by kernel_rfl) rfl (fun w ho => by have := hc0 (spot (LT.nd _ t').ks key) (by simpa using hsl) w (ho.map Sub.any); rw [List.getElem_map] at this; rw [(List.getElem?_eq_some_iff.1 hat).2] at this; exact this)) ?_
    refine LW.q rfl (Qt.assign rfl) ?_
    refine LW.done ?_
    refine ⟨_, ?_, _, ⟨_, h', q, .down c (LT.nd _ t') L1 L2, false, ⟨(plug_down hsub).trans hpl, hkq, huq, by omega, hgq.trans hget⟩, rfl, (updS rfl (updS rfl rfl)), rfl⟩, (fun k K => Has.over (m := [treeA h' q, cxA (.down c (LT.nd _ t') L1 L2) (LT.nd h' q).p]) (Has.down (m := trB g o (LT.nd H t).p cnt :: F) hsub (Sub.any k K)))⟩
    first | omega | (simp; omega)
end Go.Proofs.Ytefognjcognknaa

/- btree: split. Conditions: sizes. -/
set_option linter.unusedSimpArgs false
set_option linter.unusedVariables false
namespace Go.Proofs.Ytefognjcognknaa
open Go.RowKit
theorem Has.rowTake {v : Option Addr} {m c e j : Nat} {xs : List Value} {l : List Assn} {k : Piece} (hj : j ≤ m) (h0 : 0 < m) (H : Has (row (.slice v m c) e 1 m xs :: l) k) : Has (row (.slice v j c) e 1 j (xs.take j) :: l) k := by
  refine Has.weaken (fun q hq => ?_) H
  obtain ⟨hl, h⟩ := hq
  refine ⟨by rw [List.length_take]; omega, ?_⟩
  rcases h with ⟨h, _⟩ | ⟨g, cap, cur, e1, e2, e3, e4, e5, e6⟩
  · injection h with _ h1 _
    omega
  · injection e1 with e1 _ ec
    subst e1; subst ec
    exact .inr ⟨g, c, cur, rfl, e2, by omega, e4, e5, by rw [← e6, List.take_take]; congr 1; omega⟩
theorem RdV.ks {B : Base} {x : Nd} (hp : 0 < x.kv.length → ∃ g, x.ka = some ⟨g, 0, none⟩) : RdV B [ndK x] (.slice x.ka x.kv.length x.kc) (x.ks.map kT) := RdV.ofRow (e := 9) (fun _ ho => ho.row_owns) (by simp) hp
theorem RdV.dropV {B : Base} {S : List Assn} {a : Option Addr} {m c o : Nat} {cs : List Value} (h : RdV B S (.slice a m c) cs) (hm : cs.length = m) (hp : 0 < m → ∃ g, a = some ⟨g, 0, none⟩) (ho : o ≤ m) (hc : m ≤ c) : RdV B S (.slice (offA a c o 1) (m - o) (c - o)) (cs.drop o) := by
  have := h.sub o m (c - o) ho (by omega) (offA a c o 1) (fun hlt b q e => by
    obtain ⟨g, rfl⟩ := hp (by omega)
    injection e with e
    injection e with e1 e2
    subst e1; subst e2
    rw [offA_one (by omega), Nat.zero_add])
  rw [List.take_of_length_le (by omega)] at this
  exact this
abbrev insL {α : Type} (l : List α) (i : Nat) (m : α) : List α := l.take i ++ m :: l.drop i
theorem insL_len {α : Type} {l : List α} {i : Nat} {m : α} (h : i ≤ l.length) : (insL l i m).length = l.length + 1 := by simp [insL]; omega
theorem insL_map {α β : Type} (f : α → β) (l : List α) (i : Nat) (m : α) : (insL l i m).map f = insL (l.map f) i (f m) := by simp [insL, List.map_take, List.map_drop]
theorem Has.rowCast {v v' : Value} {e m m' : Nat} {xs xs' : List Value} {l : List Assn} {k : Piece} (hv : v = v') (hm : m = m') (hx : xs = xs') (H : Has (row v e 1 m xs :: l) k) : Has (row v' e 1 m' xs' :: l) k := by subst hv; subst hm; subst hx; exact H
theorem Has.blkCast {g t : Nat} {C C' : List Value} {l : List Assn} {k : Piece} (hC : C = C') (H : Has (blk g C t :: l) k) : Has (blk g C' t :: l) k := by subst hC; exact H
theorem Has.head {A : Assn} {l m : List Assn} {k : Piece} (H : Has (A :: l) k) (f : ∀ q, Has l q → Has m q) : Has (A :: m) k := Has.cons_imp f H
/-- The parent behind a split. -/
theorem Has.par {x x' : Nd} {ps qs : List Nat} {i : Nat} {m : KV} {p : Nat} {a5 a6 a7 : Option Addr} {c5 c6 c7 : Nat} {l : List Assn} {k : Piece} (hx : x' = ⟨x.p, insL x.kv i m, a5, c5, a6, c6, a7, c7⟩) (hq : qs = insL ps (i + 1) p) (hi : i ≤ x.kv.length) (hi2 : i + 1 ≤ ps.length)
    (H : Has (blk x.p [.slice a5 (x.kv.length + 1) c5, .slice a6 (x.kv.length + 1) c6, .slice a7 (ps.length + 1) c7] 98 :: row (.slice a5 (x.kv.length + 1) c5) 9 1 (x.kv.length + 1) (insL (x.ks.map kT) i (kT m.1)) :: row (.slice a6 (x.kv.length + 1) c6) 2 1 (x.kv.length + 1) (insL (x.vs.map iV) i (iV m.2)) :: row (.slice a7 (ps.length + 1) c7) 95 1 (ps.length + 1) (insL (ps.map pV) (i + 1) (pV p)) :: l) k) : Has (ndB x' qs.length :: ndK x' :: ndV x' :: ndC x' qs :: l) k := by
  subst hq; subst hx
  have e1 : (insL x.kv i m).length = x.kv.length + 1 := insL_len hi
  have e2 : (insL ps (i + 1) p).length = ps.length + 1 := insL_len hi2
  refine Has.head (Has.blkCast (by rw [e1, e2]) H) fun q H => ?_
  refine Has.head (Has.rowCast (by rw [e1]) e1.symm (by rw [Nd.ks, Nd.ks, insL_map, insL_map]) H) fun q H => ?_
  refine Has.head (Has.rowCast (by rw [e1]) e1.symm (by rw [Nd.vs, Nd.vs, insL_map, insL_map]) H) fun q H => ?_
  exact Has.rowCast (by rw [e2]) e2.symm (by rw [insL_map]) H
/-- The left one behind a split. -/
theorem Has.lft {y y' : Nd} {ps : List Nat} {j z : Nat} {l : List Assn} {k : Piece} (hp : y' = ⟨y.p, y.kv.take j, y.ka, y.kc, y.va, y.vc, y.ca, y.cc⟩) (hj : j ≤ y.kv.length) (h0 : 0 < y.kv.length) (hz : z ≤ ps.length) (hz0 : ps = [] ∨ 0 < ps.length)
    (H : Has (blk y.p [.slice y.ka j y.kc, .slice y.va j y.vc, .slice y.ca z y.cc] 98 :: ndK y :: ndV y :: ndC y ps :: l) k) : Has (ndB y' (ps.take z).length :: ndK y' :: ndV y' :: ndC y' (ps.take z) :: l) k := by
  subst hp
  have e1 : (y.kv.take j).length = j := by rw [List.length_take]; omega
  have e2 : (ps.take z).length = z := by rw [List.length_take]; omega
  refine Has.head (Has.blkCast (by rw [e1, e2]) H) fun q H => ?_
  refine Has.head (Has.rowCast (by rw [e1]) e1.symm (by simp [Nd.ks, List.map_take]) (Has.rowTake hj h0 H)) fun q H => ?_
  refine Has.head (Has.rowCast (by rw [e1]) e1.symm (by simp [Nd.vs, List.map_take]) (Has.rowTake hj h0 H)) fun q HH => ?_
  rcases hz0 with hz0 | hz0
  · have hz1 : z = 0 := by rw [hz0] at hz; simpa using hz
    rw [hz0, hz1]
    rw [hz0] at HH
    exact HH
  · exact Has.rowCast (by rw [e2]) e2.symm (by rw [List.map_take]) (Has.rowTake hz hz0 HH)
/-- The right one behind a split. -/
theorem Has.rgt {y z' : Nd} {ps : List Nat} {g o j m : Nat} {p1 p2 p3 : Option Addr} {c1 c2 c3 : Nat} {l : List Assn} {k : Piece} (hp : z' = ⟨g, y.kv.drop o, p1, c1, p2, c2, p3, c3⟩) (hj : y.kv.length - o = j) (hm : ps.length - o = m)
    (H : Has (blk g [.slice p1 j c1, .slice p2 j c2, .slice p3 m c3] 98 :: row (.slice p1 j c1) 9 1 j ((y.kv.drop o).map fun q => kT q.1) :: row (.slice p2 j c2) 2 1 j ((y.kv.drop o).map fun q => iV q.2) :: row (.slice p3 m c3) 95 1 m ((ps.drop o).map pV) :: l) k) : Has (ndB z' (ps.drop o).length :: ndK z' :: ndV z' :: ndC z' (ps.drop o) :: l) k := by
  subst hp; subst hj; subst hm
  have e1 : (y.kv.drop o).length = y.kv.length - o := by simp
  have e2 : (ps.drop o).length = ps.length - o := by simp
  refine Has.head (Has.blkCast (by rw [e1, e2]) H) fun q H => ?_
  refine Has.head (Has.rowCast (by rw [e1]) e1.symm (by simp [Nd.ks]; rfl) H) fun q H => ?_
  refine Has.head (Has.rowCast (by rw [e1]) e1.symm (by simp [Nd.vs]; rfl) H) fun q H => ?_
  exact Has.rowCast (by rw [e2]) e2.symm rfl H
theorem Has.rowNil {e sz : Nat} {l : List Assn} {k : Piece} (H : Has l k) : Has (row (.slice none 0 0) e sz 0 [] :: l) k := ⟨fun _ => none, _, ⟨fun _ => .inl rfl⟩, ⟨fun _ _ h => (by cases h)⟩, Piece.le_refl _, ⟨by simp, .inl ⟨rfl, rfl⟩⟩, H⟩
set_option maxHeartbeats 4000000 in
set_option maxRecDepth 100000 in
theorem Bt.split (B : Base) (g o r cnt : Nat) (x k : Nd) (ps kps : List Nat) (i : Nat) (ho : 2 ≤ o) (ho2 : o ≤ 64) (hi : ps[i]? = some k.p) (hil : i ≤ x.kv.length) (hxl : x.kv.length < 2 ^ 39) (hpl : ps.length = x.kv.length + 1) (hkl : k.kv.length = 2 * o - 1) (hkp : kps = [] ∨ kps.length = 2 * o) :
  Fn Try.prog B 43 #[pV g, pV x.p, .int .i64 i] ([trB g o r cnt] ++ nodeL x ps ++ nodeL k kps) (fun u l => ∃ x' k1 k2 : Nd, x'.p = x.p ∧ k1.p = k.p ∧ x'.kv = x.kv.take i ++ (k.kv[o - 1]'(by omega)) :: x.kv.drop i ∧ k1.kv = k.kv.take (o - 1) ∧ k2.kv = k.kv.drop o ∧ u = outV [] ∧
   l = [trB g o r cnt] ++ nodeL x' (ps.take (i + 1) ++ k2.p :: ps.drop (i + 1)) ++ nodeL k1 (kps.take o) ++ nodeL k2 (kps.drop o)) := by
 refine Fn.enter3 128 Try.func43 rfl rfl (Nat.le_of_ble_eq_true rfl) (fun F => ?_)
 try simp only [List.cons_append, List.nil_append]
 refine T.own fun w0 ho0 => ?_
 have hxk := (ho0.slice_at (p := x.ka) (m := x.kv.length) (c := x.kc) (k := x.kv.length)).2.1
 have hxc := (ho0.slice_at (p := x.ca) (m := ps.length) (c := x.cc) (k := ps.length)).2.1
 have hkk := (ho0.slice_at (p := k.ka) (m := k.kv.length) (c := k.kc) (k := k.kv.length)).2.1
 have hkv := (ho0.slice_at (p := k.va) (m := k.kv.length) (c := k.vc) (k := k.kv.length)).2.1
 have hkc := (ho0.slice_at (p := k.ca) (m := kps.length) (c := k.cc) (k := kps.length)).2.1
 have hkcap : k.kv.length ≤ k.kc := ho0.cap_at (p := k.ka) (m := k.kv.length) (c := k.kc) (k := k.kv.length)
 have hkvcap : k.kv.length ≤ k.vc := ho0.cap_at (p := k.va) (m := k.kv.length) (c := k.vc) (k := k.kv.length)
 have hkccap : kps.length ≤ k.cc := ho0.cap_at (p := k.ca) (m := kps.length) (c := k.cc) (k := kps.length)
 clear ho0
 obtain ⟨b0, o0, hca, hc0⟩ := (RdV.cs (B := B) hxc).at (by omega)
 refine T.seq ?_
 refine T.drawAll 14 (by kernel_rfl) (Nat.le_of_ble_eq_true rfl) (by kernel_rfl) ?_
 refine RW.q 0 rfl rfl (by kernel_rfl) (Sub.refl _) (Qt.move rfl) ?_
 refine RW.q 1 rfl rfl (by kernel_rfl) (Sub.refl _) (Qt.nilCheck rfl) ?_
 refine RW.q 2 rfl rfl (by kernel_rfl) (Sub.refl _) (Qt.fieldAddr (off := 2) (by kernel_rfl) rfl) ?_
 refine RW.q 3 rfl rfl (by kernel_rfl) (Sub.refl _) (Qt.load (v := .slice (some ⟨b0, o0, none⟩) ps.length x.cc) (by kernel_rfl) rfl (by rw [← hca]; rfl)) ?_
 refine RW.q 4 rfl rfl (by kernel_rfl) (Sub.refl _) (Qt.move rfl) ?_
 refine RW.q 5 rfl rfl (by kernel_rfl) (Sub.refl _) (Qt.index _ (e := 95) (sz := 1) (by kernel_rfl) rfl rfl rfl (by omega)) ?_
 refine RW.q 6 rfl rfl (by kernel_rfl) (Sub.refl _) (Qt.loadW (v := pV k.p) (by kernel_rfl) rfl (fun w ho => by have := hc0 i (by simp; omega) w (ho.map Sub.any); rw [List.getElem_map] at this; rw [(List.getElem?_eq_some_iff.1 hi).2] at this; exact this)) ?_
 refine RW.q 7 rfl rfl (by kernel_rfl) (Sub.refl _) (Qt.move rfl) ?_
 refine RW.q 8 rfl rfl (by kernel_rfl) (Sub.refl _) (Qt.nilCheck rfl) ?_
 refine RW.q 9 rfl rfl (by kernel_rfl) (Sub.refl _) (Qt.fieldAddr0 (by kernel_rfl) rfl) ?_
 refine RW.q 10 rfl rfl (by kernel_rfl) (Sub.refl _) (Qt.fieldAddr0 (by kernel_rfl) rfl) ?_
 first | refine RW.q 11 rfl rfl (by kernel_rfl) (Sub.refl _) (Qt.load (by kernel_rfl) rfl rfl) ?_ | refine RW.q 11 rfl rfl (by kernel_rfl) (Sub.refl _) (Qt.load (by kernel_rfl) rfl (map_at _ _ _ (by omega))) ?_ | refine RW.q 11 rfl rfl (by kernel_rfl) (Sub.refl _) (Qt.load (by kernel_rfl) rfl (flat_cell0 _ _ _ (by intros; rfl) _ (by omega) (by rfl))) ?_ | refine RW.q 11 rfl rfl (by kernel_rfl) (Sub.refl _) (Qt.load (by kernel_rfl) rfl (flat_cell _ _ _ (by intros; rfl) _ _ (by omega) (by rfl))) ?_ | refine RW.q 11 rfl rfl (by kernel_rfl) (Sub.refl _) (Qt.load (by kernel_rfl) rfl (bytes_at _ _ (by omega))) ?_
 refine RW.q 12 rfl rfl (by kernel_rfl) (Sub.refl _) (Qt.sub (r := ((o - 1 : Nat) : Int)) rfl rfl (by rw [wr64 (by omega) (by omega)]; omega)) ?_
 refine RW.q 13 rfl rfl (by kernel_rfl) (Sub.refl _) (Qt.assign rfl) ?_
 refine RW.done (by rfl) ?_
 simp only [List.drop_succ_cons, List.drop_zero, List.drop_nil]
 refine LW.q rfl (Qt.assign rfl) ?_
 refine LW.done ?_
 refine T.seq ?_
 refine T.drawBl 18 none (by kernel_rfl) (Nat.le_of_ble_eq_true rfl) (by kernel_rfl) ?_
 refine RW.q 0 rfl rfl (by kernel_rfl) Sub.any (Qt.move rfl) ?_
 refine RW.q 1 rfl rfl (by kernel_rfl) Sub.any (Qt.nilCheck rfl) ?_
 refine RW.q 2 rfl rfl (by kernel_rfl) Sub.any (Qt.fieldAddr0 (by kernel_rfl) rfl) ?_
 first | refine RW.q 3 rfl rfl (by kernel_rfl) Sub.any (Qt.load (by kernel_rfl) rfl rfl) ?_ | refine RW.q 3 rfl rfl (by kernel_rfl) Sub.any (Qt.load (by kernel_rfl) rfl (map_at _ _ _ (by omega))) ?_ | refine RW.q 3 rfl rfl (by kernel_rfl) Sub.any (Qt.load (by kernel_rfl) rfl (flat_cell0 _ _ _ (by intros; rfl) _ (by omega) (by rfl))) ?_ | refine RW.q 3 rfl rfl (by kernel_rfl) Sub.any (Qt.load (by kernel_rfl) rfl (flat_cell _ _ _ (by intros; rfl) _ _ (by omega) (by rfl))) ?_ | refine RW.q 3 rfl rfl (by kernel_rfl) Sub.any (Qt.load (by kernel_rfl) rfl (bytes_at _ _ (by omega))) ?_
 refine RW.q 4 rfl rfl (by kernel_rfl) Sub.any (Qt.move rfl) ?_
 refine RW.q 5 rfl rfl (by kernel_rfl) Sub.any (Qt.add rfl rfl (wr64 (by omega) (by omega))) ?_
 refine RW.q 6 rfl rfl (by kernel_rfl) Sub.any (Qt.slice_snn o (e := 9) (sz := 1) (by kernel_rfl) rfl rfl (by omega) (by omega)) ?_
 refine RW.q 8 rfl rfl (by kernel_rfl) Sub.any (Qt.move rfl) ?_
 refine RW.q 9 rfl rfl (by kernel_rfl) Sub.any (Qt.nilCheck rfl) ?_
 refine RW.q 10 rfl rfl (by kernel_rfl) Sub.any (Qt.fieldAddr (off := 1) (by kernel_rfl) rfl) ?_
 first | refine RW.q 11 rfl rfl (by kernel_rfl) Sub.any (Qt.load (by kernel_rfl) rfl rfl) ?_ | refine RW.q 11 rfl rfl (by kernel_rfl) Sub.any (Qt.load (by kernel_rfl) rfl (map_at _ _ _ (by omega))) ?_ | refine RW.q 11 rfl rfl (by kernel_rfl) Sub.any (Qt.load (by kernel_rfl) rfl (flat_cell0 _ _ _ (by intros; rfl) _ (by omega) (by rfl))) ?_ | refine RW.q 11 rfl rfl (by kernel_rfl) Sub.any (Qt.load (by kernel_rfl) rfl (flat_cell _ _ _ (by intros; rfl) _ _ (by omega) (by rfl))) ?_ | refine RW.q 11 rfl rfl (by kernel_rfl) Sub.any (Qt.load (by kernel_rfl) rfl (bytes_at _ _ (by omega))) ?_
 refine RW.q 12 rfl rfl (by kernel_rfl) Sub.any (Qt.move rfl) ?_
 refine RW.q 13 rfl rfl (by kernel_rfl) Sub.any (Qt.add rfl rfl (wr64 (by omega) (by omega))) ?_
 refine RW.q 14 rfl rfl (by kernel_rfl) Sub.any (Qt.slice_snn o (e := 2) (sz := 1) (by kernel_rfl) rfl rfl (by omega) (by omega)) ?_
 refine RW.one 7 (by kernel_rfl) ?_
 refine RO.eS rfl rfl (Ef.call (Lb.cloneS B [ndK k] (.slice (offA k.ka k.kc o 1) (k.kv.length - o) (k.kc - o)) ((k.kv.drop o).map fun q => kT q.1) (k.kv.length - o) (by simp) (by have := (RdV.ks (B := B) hkk).dropV (o := o) (by simp) hkk (by omega) hkcap; simpa [List.map_drop, Function.comp_def] using this) (by omega) (by intro v hv; obtain ⟨_, _, rfl⟩ := List.mem_map.1 hv; rfl)) Try.func68 rfl rfl rfl ?_)
 rintro _ _ ⟨p1, c1, rfl, rfl⟩
 try simp only [List.cons_append, List.nil_append]
 refine ⟨Sub.any, ?_⟩
 refine RW.one 15 (by kernel_rfl) ?_
 refine RO.r rfl rfl (by kernel_rfl) (Ef.call (Lb.cloneI B [ndV k] (.slice (offA k.va k.vc o 1) (k.kv.length - o) (k.vc - o)) ((k.kv.drop o).map fun q => iV q.2) (k.kv.length - o) (by simp) (by have := (RdV.vs (B := B) hkv).dropV (o := o) (by simp) hkv (by omega) hkvcap; simpa [List.map_drop, Function.comp_def] using this) (by omega) (by intro v hv; obtain ⟨_, _, rfl⟩ := List.mem_map.1 hv; rfl)) Try.func69 rfl rfl rfl ?_)
 rintro _ _ ⟨p2, c2, rfl, rfl⟩
 try simp only [List.cons_append, List.nil_append]
 refine RW.q 16 rfl rfl (by kernel_rfl) (Sub.refl _) (Qt.build [(0, 1), (1, 1), (2, 1)] [.slice none 0 0, .slice none 0 0, .slice none 0 0] [_, _, _] [(0, _), (1, _)] (by kernel_rfl) (by unfold zeroB; kernel_rfl) rfl rfl) ?_
 refine RW.one 17 (by kernel_rfl) ?_
 refine RO.r rfl rfl (by kernel_rfl) (Ef.box [_, _, _] rfl rfl ?_)
 intro g39
 refine RW.done (by rfl) ?_
 simp only [List.drop_succ_cons, List.drop_zero, List.drop_nil]
 refine LW.q rfl (Qt.assign rfl) ?_
 refine LW.done ?_
 refine T.seq ?_
 refine T.seq ?_
 refine T.region ?_
 refine LW.q rfl (Qt.move rfl) ?_
 refine LW.e rfl (Ef.call (Bt.leaf B k kps.length) Try.func45 rfl rfl rfl ?_)
 rintro _ _ ⟨rfl, rfl⟩
 try simp only [List.cons_append, List.nil_append]
 first | refine LW.q rfl (Qt.notP rfl) ?_ | refine LW.q rfl (Qt.notB rfl) ?_
 refine LW.done ?_
 obtain ⟨bk, ok, hka, hck⟩ := (RdV.ks (B := B) hkk).at (by omega)
 obtain ⟨bv, ov, hva, hcv⟩ := (RdV.vs (B := B) hkv).at (by omega)
 refine T.condP rfl (fun hlf => ?_) (fun hlf => ?_)
 ·
  have hkl2 : kps.length = 2 * o := hkp.resolve_left (fun e => hlf (by rw [e]; rfl))
  refine T.seq ?_
  refine T.region ?_
  refine LW.q rfl (Qt.move rfl) ?_
  refine LW.q rfl (Qt.move rfl) ?_
  refine LW.q rfl (Qt.nilCheck rfl) ?_
  refine LW.q rfl (Qt.fieldAddr (off := 2) (by kernel_rfl) rfl) ?_
  first | refine LW.q rfl (Qt.load (by kernel_rfl) rfl rfl) ?_ | refine LW.q rfl (Qt.load (by kernel_rfl) rfl (map_at _ _ _ (by omega))) ?_ | refine LW.q rfl (Qt.load (by kernel_rfl) rfl (flat_cell0 _ _ _ (by intros; rfl) _ (by omega) (by rfl))) ?_ | refine LW.q rfl (Qt.load (by kernel_rfl) rfl (flat_cell _ _ _ (by intros; rfl) _ _ (by omega) (by rfl))) ?_ | refine LW.q rfl (Qt.load (by kernel_rfl) rfl (bytes_at _ _ (by omega))) ?_
  refine LW.q rfl (Qt.move rfl) ?_
  refine LW.q rfl (Qt.add rfl rfl (wr64 (by omega) (by omega))) ?_
  refine LW.q rfl (Qt.slice_snn o (e := 95) (sz := 1) (by kernel_rfl) rfl rfl (by omega) (by omega)) ?_
  refine LW.e rfl (Ef.call (Lb.cloneN B [ndC k kps] (.slice (offA k.ca k.cc o 1) (kps.length - o) (k.cc - o)) ((kps.drop o).map pV) (kps.length - o) (by simp) (by have := (RdV.cs (B := B) hkc).dropV (o := o) (by simp) hkc (by omega) hkccap; simpa [List.map_drop, Function.comp_def] using this) (by omega) (by intro v hv; obtain ⟨_, _, rfl⟩ := List.mem_map.1 hv; rfl)) Try.func70 rfl rfl rfl ?_)
  rintro _ _ ⟨p3, c3, rfl, rfl⟩
  try simp only [List.cons_append, List.nil_append]
  refine LW.q rfl (Qt.nilCheck rfl) ?_
  refine LW.q rfl (Qt.fieldAddr (off := 2) (by kernel_rfl) rfl) ?_
  refine LW.e0 rfl (Ef.store1 (by kernel_rfl) rfl rfl rfl (by first | (simp; done) | (simp; omega)) ?_)
  try simp only [List.set_cons_zero, List.set_cons_succ]
  refine LW.done ?_
  refine T.region ?_
  refine LW.q rfl (Qt.move rfl) ?_
  refine LW.q rfl (Qt.move rfl) ?_
  refine LW.q rfl (Qt.nilCheck rfl) ?_
  refine LW.q rfl (Qt.fieldAddr (off := 2) (by kernel_rfl) rfl) ?_
  first | refine LW.q rfl (Qt.load (by kernel_rfl) rfl rfl) ?_ | refine LW.q rfl (Qt.load (by kernel_rfl) rfl (map_at _ _ _ (by omega))) ?_ | refine LW.q rfl (Qt.load (by kernel_rfl) rfl (flat_cell0 _ _ _ (by intros; rfl) _ (by omega) (by rfl))) ?_ | refine LW.q rfl (Qt.load (by kernel_rfl) rfl (flat_cell _ _ _ (by intros; rfl) _ _ (by omega) (by rfl))) ?_ | refine LW.q rfl (Qt.load (by kernel_rfl) rfl (bytes_at _ _ (by omega))) ?_
  refine LW.q rfl (Qt.move rfl) ?_
  refine LW.q rfl (Qt.add rfl rfl (wr64 (by omega) (by omega))) ?_
  refine LW.q rfl (Qt.slice_nsn o (e := 95) (sz := 1) (by kernel_rfl) rfl rfl (by omega) (by omega)) ?_
  refine LW.q rfl (Qt.nilCheck rfl) ?_
  refine LW.q rfl (Qt.fieldAddr (off := 2) (by kernel_rfl) rfl) ?_
  refine LW.e0 rfl (Ef.store1 (by kernel_rfl) rfl rfl rfl (by first | (simp; done) | (simp; omega)) ?_)
  try simp only [List.set_cons_zero, List.set_cons_succ]
  refine LW.done ?_
  refine T.seq ?_
  refine T.drawBl 15 none (by kernel_rfl) (Nat.le_of_ble_eq_true rfl) (by kernel_rfl) ?_
  refine RW.q 0 rfl rfl (by kernel_rfl) Sub.any (Qt.move rfl) ?_
  refine RW.q 1 rfl rfl (by kernel_rfl) Sub.any (Qt.move rfl) ?_
  refine RW.q 2 rfl rfl (by kernel_rfl) Sub.any (Qt.nilCheck rfl) ?_
  refine RW.q 3 rfl rfl (by kernel_rfl) Sub.any (Qt.fieldAddr0 (by kernel_rfl) rfl) ?_
  first | refine RW.q 4 rfl rfl (by kernel_rfl) Sub.any (Qt.load (by kernel_rfl) rfl rfl) ?_ | refine RW.q 4 rfl rfl (by kernel_rfl) Sub.any (Qt.load (by kernel_rfl) rfl (map_at _ _ _ (by omega))) ?_ | refine RW.q 4 rfl rfl (by kernel_rfl) Sub.any (Qt.load (by kernel_rfl) rfl (flat_cell0 _ _ _ (by intros; rfl) _ (by omega) (by rfl))) ?_ | refine RW.q 4 rfl rfl (by kernel_rfl) Sub.any (Qt.load (by kernel_rfl) rfl (flat_cell _ _ _ (by intros; rfl) _ _ (by omega) (by rfl))) ?_ | refine RW.q 4 rfl rfl (by kernel_rfl) Sub.any (Qt.load (by kernel_rfl) rfl (bytes_at _ _ (by omega))) ?_
  refine RW.q 5 rfl rfl (by kernel_rfl) Sub.any (Qt.move rfl) ?_
  refine RW.q 6 rfl rfl (by kernel_rfl) Sub.any (Qt.move rfl) ?_
  refine RW.q 7 rfl rfl (by kernel_rfl) Sub.any (Qt.nilCheck rfl) ?_
  refine RW.q 8 rfl rfl (by kernel_rfl) Sub.any (Qt.fieldAddr0 (by kernel_rfl) rfl) ?_
  refine RW.q 9 rfl rfl (by kernel_rfl) Sub.any (Qt.load (v := .slice (some ⟨bk, ok, none⟩) k.kv.length k.kc) (by kernel_rfl) rfl (by rw [← hka]; rfl)) ?_
  refine RW.q 10 rfl rfl (by kernel_rfl) Sub.any (Qt.move rfl) ?_
  refine RW.q 11 rfl rfl (by kernel_rfl) Sub.any (Qt.index _ (e := 9) (sz := 1) (by kernel_rfl) rfl rfl rfl (by omega)) ?_
  refine RW.one 12 (by kernel_rfl) ?_
  first | refine RO.eS rfl rfl (Ef.qt (Qt.loadW (v := kT (k.kv[o - 1]'(by omega)).1) (by kernel_rfl) rfl (fun w ho => by have := hck (o - 1) (by simp; omega) w (ho.map Sub.any); simpa using this)) ?_)
  refine ⟨Sub.any, ?_⟩
  refine RW.one 13 (by kernel_rfl) ?_
  refine RO.eS rfl rfl (Ef.one [_] (e := 9) (sz := 1) (by kernel_rfl) ⟨.string .empty, by kernel_rfl, rfl⟩ rfl rfl rfl (by omega) (by omega) ?_)
  intro g77
  refine ⟨Sub.any, ?_⟩
  refine RW.one 14 (by kernel_rfl) ?_
  refine RO.r rfl rfl (by kernel_rfl) (Ef.call (Lb.insertS B x.ka x.kv.length x.kc i g77 (x.ks.map kT) (kT (k.kv[o - 1]'(by omega)).1) (by simp) hil (by omega) rfl one_kT) Try.func46 rfl rfl rfl ?_)
  rintro _ _ ⟨p5, c5, rfl, ⟨h5, rfl⟩, rfl⟩
  try simp only [List.cons_append, List.nil_append]
  refine RW.done (by rfl) ?_
  simp only [List.drop_succ_cons, List.drop_zero, List.drop_nil]
  refine LW.q rfl (Qt.nilCheck rfl) ?_
  refine LW.q rfl (Qt.fieldAddr0 (by kernel_rfl) rfl) ?_
  refine LW.e0 rfl (Ef.store1 (by kernel_rfl) rfl rfl rfl (by first | (simp; done) | (simp; omega)) ?_)
  try simp only [List.set_cons_zero, List.set_cons_succ]
  refine LW.done ?_
  refine T.seq ?_
  refine T.drawBl 15 none (by kernel_rfl) (Nat.le_of_ble_eq_true rfl) (by kernel_rfl) ?_
  refine RW.q 0 rfl rfl (by kernel_rfl) Sub.any (Qt.move rfl) ?_
  refine RW.q 1 rfl rfl (by kernel_rfl) Sub.any (Qt.move rfl) ?_
  refine RW.q 2 rfl rfl (by kernel_rfl) Sub.any (Qt.nilCheck rfl) ?_
  refine RW.q 3 rfl rfl (by kernel_rfl) Sub.any (Qt.fieldAddr (off := 1) (by kernel_rfl) rfl) ?_
  first | refine RW.q 4 rfl rfl (by kernel_rfl) Sub.any (Qt.load (by kernel_rfl) rfl rfl) ?_ | refine RW.q 4 rfl rfl (by kernel_rfl) Sub.any (Qt.load (by kernel_rfl) rfl (map_at _ _ _ (by omega))) ?_ | refine RW.q 4 rfl rfl (by kernel_rfl) Sub.any (Qt.load (by kernel_rfl) rfl (flat_cell0 _ _ _ (by intros; rfl) _ (by omega) (by rfl))) ?_ | refine RW.q 4 rfl rfl (by kernel_rfl) Sub.any (Qt.load (by kernel_rfl) rfl (flat_cell _ _ _ (by intros; rfl) _ _ (by omega) (by rfl))) ?_ | refine RW.q 4 rfl rfl (by kernel_rfl) Sub.any (Qt.load (by kernel_rfl) rfl (bytes_at _ _ (by omega))) ?_
  refine RW.q 5 rfl rfl (by kernel_rfl) Sub.any (Qt.move rfl) ?_
  refine RW.q 6 rfl rfl (by kernel_rfl) Sub.any (Qt.move rfl) ?_
  refine RW.q 7 rfl rfl (by kernel_rfl) Sub.any (Qt.nilCheck rfl) ?_
  refine RW.q 8 rfl rfl (by kernel_rfl) Sub.any (Qt.fieldAddr (off := 1) (by kernel_rfl) rfl) ?_
  refine RW.q 9 rfl rfl (by kernel_rfl) Sub.any (Qt.load (v := .slice (some ⟨bv, ov, none⟩) k.kv.length k.vc) (by kernel_rfl) rfl (by rw [← hva]; rfl)) ?_
  refine RW.q 10 rfl rfl (by kernel_rfl) Sub.any (Qt.move rfl) ?_
  refine RW.q 11 rfl rfl (by kernel_rfl) Sub.any (Qt.index _ (e := 2) (sz := 1) (by kernel_rfl) rfl rfl rfl (by omega)) ?_
  refine RW.one 12 (by kernel_rfl) ?_
  first | refine RO.eS rfl rfl (Ef.qt (Qt.loadW (v := iV (k.kv[o - 1]'(by omega)).2) (by kernel_rfl) rfl (fun w ho => by have := hcv (o - 1) (by simp; omega) w (ho.map Sub.any); simpa using this)) ?_)
  refine ⟨Sub.any, ?_⟩
  refine RW.one 13 (by kernel_rfl) ?_
  refine RO.eS rfl rfl (Ef.one [_] (e := 2) (sz := 1) (by kernel_rfl) ⟨.int .i64 0, by kernel_rfl, rfl⟩ rfl rfl rfl (by omega) (by omega) ?_)
  intro g94
  refine ⟨Sub.any, ?_⟩
  refine RW.one 14 (by kernel_rfl) ?_
  refine RO.r rfl rfl (by kernel_rfl) (Ef.call (Lb.insertI B x.va x.kv.length x.vc i g94 (x.vs.map iV) (iV (k.kv[o - 1]'(by omega)).2) (by simp) hil (by omega) rfl (by intro v hv; obtain ⟨_, _, rfl⟩ := List.mem_map.1 hv; rfl)) Try.func47 rfl rfl rfl ?_)
  rintro _ _ ⟨p6, c6, rfl, ⟨h6, rfl⟩, rfl⟩
  try simp only [List.cons_append, List.nil_append]
  refine RW.done (by rfl) ?_
  simp only [List.drop_succ_cons, List.drop_zero, List.drop_nil]
  refine LW.q rfl (Qt.nilCheck rfl) ?_
  refine LW.q rfl (Qt.fieldAddr (off := 1) (by kernel_rfl) rfl) ?_
  refine LW.e0 rfl (Ef.store1 (by kernel_rfl) rfl rfl rfl (by first | (simp; done) | (simp; omega)) ?_)
  try simp only [List.set_cons_zero, List.set_cons_succ]
  refine LW.done ?_
  refine T.seq ?_
  refine T.region ?_
  refine LW.q rfl (Qt.move rfl) ?_
  refine LW.q rfl (Qt.move rfl) ?_
  refine LW.q rfl (Qt.nilCheck rfl) ?_
  refine LW.q rfl (Qt.fieldAddr (off := 2) (by kernel_rfl) rfl) ?_
  first | refine LW.q rfl (Qt.load (by kernel_rfl) rfl rfl) ?_ | refine LW.q rfl (Qt.load (by kernel_rfl) rfl (map_at _ _ _ (by omega))) ?_ | refine LW.q rfl (Qt.load (by kernel_rfl) rfl (flat_cell0 _ _ _ (by intros; rfl) _ (by omega) (by rfl))) ?_ | refine LW.q rfl (Qt.load (by kernel_rfl) rfl (flat_cell _ _ _ (by intros; rfl) _ _ (by omega) (by rfl))) ?_ | refine LW.q rfl (Qt.load (by kernel_rfl) rfl (bytes_at _ _ (by omega))) ?_
  refine LW.q rfl (Qt.move rfl) ?_
  refine LW.q rfl (Qt.add rfl rfl (wr64 (by omega) (by omega))) ?_
  refine LW.q rfl (Qt.move rfl) ?_
  refine LW.e rfl (Ef.one [_] (e := 95) (sz := 1) (by kernel_rfl) ⟨.pointer none, by kernel_rfl, rfl⟩ rfl rfl rfl (by omega) (by omega) ?_)
  intro g106
  refine LW.e rfl (Ef.call (Lb.insertN B x.ca ps.length x.cc (i + 1) g106 (ps.map pV) (pV g39) (by simp) (by omega) (by omega) rfl (by intro v hv; obtain ⟨_, _, rfl⟩ := List.mem_map.1 hv; rfl)) Try.func71 rfl rfl rfl ?_)
  rintro _ _ ⟨p7, c7, rfl, ⟨h7, rfl⟩, rfl⟩
  try simp only [List.cons_append, List.nil_append]
  refine LW.q rfl (Qt.nilCheck rfl) ?_
  refine LW.q rfl (Qt.fieldAddr (off := 2) (by kernel_rfl) rfl) ?_
  refine LW.e0 rfl (Ef.store1 (by kernel_rfl) rfl rfl rfl (by first | (simp; done) | (simp; omega)) ?_)
  try simp only [List.set_cons_zero, List.set_cons_succ]
  refine LW.done ?_
  refine T.draw 17 ([]) (by kernel_rfl) (Nat.le_of_ble_eq_true rfl) (by kernel_rfl) ?_
  refine RW.q 0 rfl rfl (by kernel_rfl) Sub.any (Qt.move rfl) ?_
  refine RW.q 1 rfl rfl (by kernel_rfl) Sub.any (Qt.move rfl) ?_
  refine RW.q 2 rfl rfl (by kernel_rfl) Sub.any (Qt.move rfl) ?_
  refine RW.q 3 rfl rfl (by kernel_rfl) Sub.any (Qt.nilCheck rfl) ?_
  refine RW.q 4 rfl rfl (by kernel_rfl) Sub.any (Qt.fieldAddr0 (by kernel_rfl) rfl) ?_
  refine RW.q 6 rfl rfl (by kernel_rfl) Sub.any (Qt.move rfl) ?_
  refine RW.q 8 rfl rfl (by kernel_rfl) Sub.any (Qt.move rfl) ?_
  refine RW.q 9 rfl rfl (by kernel_rfl) Sub.any (Qt.nilCheck rfl) ?_
  refine RW.q 10 rfl rfl (by kernel_rfl) Sub.any (Qt.fieldAddr (off := 1) (by kernel_rfl) rfl) ?_
  refine RW.q 12 rfl rfl (by kernel_rfl) Sub.any (Qt.move rfl) ?_
  refine RW.all [5, 11] (by kernel_rfl) (List.forall_mem_cons.2 ⟨?_, List.forall_mem_cons.2 ⟨?_, List.forall_mem_nil _⟩⟩)
  ·
   first | refine RO.eS rfl rfl (Ef.qt (Qt.load (by kernel_rfl) rfl rfl) ?_) | refine RO.eS rfl rfl (Ef.qt (Qt.load (by kernel_rfl) rfl (map_at _ _ _ (by omega))) ?_) | refine RO.eS rfl rfl (Ef.qt (Qt.load (by kernel_rfl) rfl (flat_cell0 _ _ _ (by intros; rfl) _ (by omega) (by rfl))) ?_) | refine RO.eS rfl rfl (Ef.qt (Qt.load (by kernel_rfl) rfl (flat_cell _ _ _ (by intros; rfl) _ _ (by omega) (by rfl))) ?_) | refine RO.eS rfl rfl (Ef.qt (Qt.load (by kernel_rfl) rfl (bytes_at _ _ (by omega))) ?_)
   refine ⟨Sub.any, ?_⟩
   refine RW.q 7 rfl rfl (by kernel_rfl) Sub.any (Qt.slice_nsn (o - 1) (e := 9) (sz := 1) (by kernel_rfl) rfl rfl rfl (by omega)) ?_
   refine RW.one 11 (by kernel_rfl) ?_
   first | refine RO.eS rfl rfl (Ef.qt (Qt.load (by kernel_rfl) rfl rfl) ?_) | refine RO.eS rfl rfl (Ef.qt (Qt.load (by kernel_rfl) rfl (map_at _ _ _ (by omega))) ?_) | refine RO.eS rfl rfl (Ef.qt (Qt.load (by kernel_rfl) rfl (flat_cell0 _ _ _ (by intros; rfl) _ (by omega) (by rfl))) ?_) | refine RO.eS rfl rfl (Ef.qt (Qt.load (by kernel_rfl) rfl (flat_cell _ _ _ (by intros; rfl) _ _ (by omega) (by rfl))) ?_) | refine RO.eS rfl rfl (Ef.qt (Qt.load (by kernel_rfl) rfl (bytes_at _ _ (by omega))) ?_)
   refine ⟨Sub.any, ?_⟩
   refine RW.q 13 rfl rfl (by kernel_rfl) Sub.any (Qt.slice_nsn (o - 1) (e := 2) (sz := 1) (by kernel_rfl) rfl rfl rfl (by omega)) ?_
   refine RW.q 14 rfl rfl (by kernel_rfl) Sub.any (Qt.nilCheck rfl) ?_
   refine RW.q 15 rfl rfl (by kernel_rfl) Sub.any (Qt.fieldAddr0 (by kernel_rfl) rfl) ?_
   refine RW.one 16 (by kernel_rfl) ?_
   refine RO.eS0 rfl rfl (Ef.store1 (by kernel_rfl) rfl rfl rfl (by first | (simp; done) | (simp; omega)) ?_)
   try simp only [List.set_cons_zero, List.set_cons_succ]
   refine ⟨Sub.any, ?_⟩
   refine RW.done (by rfl) ?_
   simp only [List.drop_succ_cons, List.drop_zero, List.drop_nil]
   refine LW.q rfl (Qt.nilCheck rfl) ?_
   refine LW.q rfl (Qt.fieldAddr (off := 1) (by kernel_rfl) rfl) ?_
   refine LW.e0 rfl (Ef.store1 (by kernel_rfl) rfl rfl rfl (by first | (simp; done) | (simp; omega)) ?_)
   try simp only [List.set_cons_zero, List.set_cons_succ]
   refine LW.done ?_
   first | exact ⟨.inr rfl, _, _, res [] rfl trivial, ⟨⟨x.p, insL x.kv i (k.kv[o - 1]'(by omega)), some ⟨h5, 0, none⟩, c5, some ⟨h6, 0, none⟩, c6, some ⟨h7, 0, none⟩, c7⟩, ⟨k.p, k.kv.take (o - 1), k.ka, k.kc, k.va, k.vc, k.ca, k.cc⟩, ⟨g39, k.kv.drop o, p1, c1, p2, c2, p3, c3⟩, rfl, rfl, rfl, rfl, rfl, rfl, rfl⟩, fun h H => by have H1 := Has.par (x := x) (m := k.kv[o - 1]'(by omega)) (p := g39) (ps := ps) (x' := ⟨x.p, insL x.kv i (k.kv[o - 1]'(by omega)), some ⟨h5, 0, none⟩, c5, some ⟨h6, 0, none⟩, c6, some ⟨h7, 0, none⟩, c7⟩) (qs := ps.take (i + 1) ++ g39 :: ps.drop (i + 1)) (l := blk k.p [.slice k.ka (o - 1) k.kc, .slice k.va (o - 1) k.vc, .slice k.ca o k.cc] 98 :: ndK k :: ndV k :: ndC k kps :: blk g39 [.slice p1 (k.kv.length - o) c1, .slice p2 (k.kv.length - o) c2, .slice p3 (kps.length - o) c3] 98 :: row (.slice p1 (k.kv.length - o) c1) 9 1 (k.kv.length - o) ((k.kv.drop o).map fun q => kT q.1) :: row (.slice p2 (k.kv.length - o) c2) 2 1 (k.kv.length - o) ((k.kv.drop o).map fun q => iV q.2) :: row (.slice p3 (kps.length - o) c3) 95 1 (kps.length - o) ((kps.drop o).map pV) :: trB g o r cnt :: F) rfl rfl hil (by omega) (Sub.any h H); have H2 := Has.lft (y := k) (ps := kps) (j := o - 1) (y' := ⟨k.p, k.kv.take (o - 1), k.ka, k.kc, k.va, k.vc, k.ca, k.cc⟩) (z := o) (l := blk g39 [.slice p1 (k.kv.length - o) c1, .slice p2 (k.kv.length - o) c2, .slice p3 (kps.length - o) c3] 98 :: row (.slice p1 (k.kv.length - o) c1) 9 1 (k.kv.length - o) ((k.kv.drop o).map fun q => kT q.1) :: row (.slice p2 (k.kv.length - o) c2) 2 1 (k.kv.length - o) ((k.kv.drop o).map fun q => iV q.2) :: row (.slice p3 (kps.length - o) c3) 95 1 (kps.length - o) ((kps.drop o).map pV) :: trB g o r cnt :: ndB (⟨x.p, insL x.kv i (k.kv[o - 1]'(by omega)), some ⟨h5, 0, none⟩, c5, some ⟨h6, 0, none⟩, c6, some ⟨h7, 0, none⟩, c7⟩ : Nd) (ps.take (i + 1) ++ g39 :: ps.drop (i + 1)).length :: ndK (⟨x.p, insL x.kv i (k.kv[o - 1]'(by omega)), some ⟨h5, 0, none⟩, c5, some ⟨h6, 0, none⟩, c6, some ⟨h7, 0, none⟩, c7⟩ : Nd) :: ndV (⟨x.p, insL x.kv i (k.kv[o - 1]'(by omega)), some ⟨h5, 0, none⟩, c5, some ⟨h6, 0, none⟩, c6, some ⟨h7, 0, none⟩, c7⟩ : Nd) :: ndC (⟨x.p, insL x.kv i (k.kv[o - 1]'(by omega)), some ⟨h5, 0, none⟩, c5, some ⟨h6, 0, none⟩, c6, some ⟨h7, 0, none⟩, c7⟩ : Nd) (ps.take (i + 1) ++ g39 :: ps.drop (i + 1)) :: F) rfl (by omega) (by omega) (by omega) (by first | exact .inr (by omega) | exact .inl hkl0) (Sub.any h H1); have H3 := Has.rgt (y := k) (ps := kps) (o := o) (z' := ⟨g39, k.kv.drop o, p1, c1, p2, c2, p3, c3⟩) (l := trB g o r cnt :: ndB (⟨k.p, k.kv.take (o - 1), k.ka, k.kc, k.va, k.vc, k.ca, k.cc⟩ : Nd) (kps.take o).length :: ndK (⟨k.p, k.kv.take (o - 1), k.ka, k.kc, k.va, k.vc, k.ca, k.cc⟩ : Nd) :: ndV (⟨k.p, k.kv.take (o - 1), k.ka, k.kc, k.va, k.vc, k.ca, k.cc⟩ : Nd) :: ndC (⟨k.p, k.kv.take (o - 1), k.ka, k.kc, k.va, k.vc, k.ca, k.cc⟩ : Nd) (kps.take o) :: ndB (⟨x.p, insL x.kv i (k.kv[o - 1]'(by omega)), some ⟨h5, 0, none⟩, c5, some ⟨h6, 0, none⟩, c6, some ⟨h7, 0, none⟩, c7⟩ : Nd) (ps.take (i + 1) ++ g39 :: ps.drop (i + 1)).length :: ndK (⟨x.p, insL x.kv i (k.kv[o - 1]'(by omega)), some ⟨h5, 0, none⟩, c5, some ⟨h6, 0, none⟩, c6, some ⟨h7, 0, none⟩, c7⟩ : Nd) :: ndV (⟨x.p, insL x.kv i (k.kv[o - 1]'(by omega)), some ⟨h5, 0, none⟩, c5, some ⟨h6, 0, none⟩, c6, some ⟨h7, 0, none⟩, c7⟩ : Nd) :: ndC (⟨x.p, insL x.kv i (k.kv[o - 1]'(by omega)), some ⟨h5, 0, none⟩, c5, some ⟨h6, 0, none⟩, c6, some ⟨h7, 0, none⟩, c7⟩ : Nd) (ps.take (i + 1) ++ g39 :: ps.drop (i + 1)) :: F) rfl rfl rfl (Sub.any h H2); simp only [nodeL, List.cons_append, List.nil_append]; exact Sub.any h H3⟩ | (subst hkl0; exact ⟨.inr rfl, _, _, res [] rfl trivial, ⟨⟨x.p, insL x.kv i (k.kv[o - 1]'(by omega)), some ⟨h5, 0, none⟩, c5, some ⟨h6, 0, none⟩, c6, some ⟨h7, 0, none⟩, c7⟩, ⟨k.p, k.kv.take (o - 1), k.ka, k.kc, k.va, k.vc, k.ca, k.cc⟩, ⟨g39, k.kv.drop o, p1, c1, p2, c2, none, 0⟩, rfl, rfl, rfl, rfl, rfl, rfl, rfl⟩, fun h H => by have H := Has.rowCast (xs' := (([] : List Nat).drop o).map pV) rfl rfl (by simp) (Has.rowNil (e := 95) (sz := 1) H); simp only [List.length_nil] at H; have H1 := Has.par (x := x) (m := k.kv[o - 1]'(by omega)) (p := g39) (ps := ps) (x' := ⟨x.p, insL x.kv i (k.kv[o - 1]'(by omega)), some ⟨h5, 0, none⟩, c5, some ⟨h6, 0, none⟩, c6, some ⟨h7, 0, none⟩, c7⟩) (qs := ps.take (i + 1) ++ g39 :: ps.drop (i + 1)) (l := blk k.p [.slice k.ka (o - 1) k.kc, .slice k.va (o - 1) k.vc, .slice k.ca 0 k.cc] 98 :: ndK k :: ndV k :: ndC k ([] : List Nat) :: blk g39 [.slice p1 (k.kv.length - o) c1, .slice p2 (k.kv.length - o) c2, .slice none 0 0] 98 :: row (.slice p1 (k.kv.length - o) c1) 9 1 (k.kv.length - o) ((k.kv.drop o).map fun q => kT q.1) :: row (.slice p2 (k.kv.length - o) c2) 2 1 (k.kv.length - o) ((k.kv.drop o).map fun q => iV q.2) :: row (.slice none 0 0) 95 1 0 ((([] : List Nat).drop o).map pV) :: trB g o r cnt :: F) rfl rfl hil (by omega) (Sub.any h H); have H2 := Has.lft (y := k) (ps := ([] : List Nat)) (j := o - 1) (y' := ⟨k.p, k.kv.take (o - 1), k.ka, k.kc, k.va, k.vc, k.ca, k.cc⟩) (z := 0) (l := blk g39 [.slice p1 (k.kv.length - o) c1, .slice p2 (k.kv.length - o) c2, .slice none 0 0] 98 :: row (.slice p1 (k.kv.length - o) c1) 9 1 (k.kv.length - o) ((k.kv.drop o).map fun q => kT q.1) :: row (.slice p2 (k.kv.length - o) c2) 2 1 (k.kv.length - o) ((k.kv.drop o).map fun q => iV q.2) :: row (.slice none 0 0) 95 1 0 ((([] : List Nat).drop o).map pV) :: trB g o r cnt :: ndB (⟨x.p, insL x.kv i (k.kv[o - 1]'(by omega)), some ⟨h5, 0, none⟩, c5, some ⟨h6, 0, none⟩, c6, some ⟨h7, 0, none⟩, c7⟩ : Nd) (ps.take (i + 1) ++ g39 :: ps.drop (i + 1)).length :: ndK (⟨x.p, insL x.kv i (k.kv[o - 1]'(by omega)), some ⟨h5, 0, none⟩, c5, some ⟨h6, 0, none⟩, c6, some ⟨h7, 0, none⟩, c7⟩ : Nd) :: ndV (⟨x.p, insL x.kv i (k.kv[o - 1]'(by omega)), some ⟨h5, 0, none⟩, c5, some ⟨h6, 0, none⟩, c6, some ⟨h7, 0, none⟩, c7⟩ : Nd) :: ndC (⟨x.p, insL x.kv i (k.kv[o - 1]'(by omega)), some ⟨h5, 0, none⟩, c5, some ⟨h6, 0, none⟩, c6, some ⟨h7, 0, none⟩, c7⟩ : Nd) (ps.take (i + 1) ++ g39 :: ps.drop (i + 1)) :: F) rfl (by omega) (by omega) (by omega) (by first | exact .inr (by omega) | exact .inl rfl) (Sub.any h H1); simp only [List.take_nil, List.length_nil] at H2; have H3 := Has.rgt (m := 0) (y := k) (ps := ([] : List Nat)) (o := o) (z' := ⟨g39, k.kv.drop o, p1, c1, p2, c2, none, 0⟩) (l := trB g o r cnt :: ndB (⟨k.p, k.kv.take (o - 1), k.ka, k.kc, k.va, k.vc, k.ca, k.cc⟩ : Nd) 0 :: ndK (⟨k.p, k.kv.take (o - 1), k.ka, k.kc, k.va, k.vc, k.ca, k.cc⟩ : Nd) :: ndV (⟨k.p, k.kv.take (o - 1), k.ka, k.kc, k.va, k.vc, k.ca, k.cc⟩ : Nd) :: ndC (⟨k.p, k.kv.take (o - 1), k.ka, k.kc, k.va, k.vc, k.ca, k.cc⟩ : Nd) ([] : List Nat) :: ndB (⟨x.p, insL x.kv i (k.kv[o - 1]'(by omega)), some ⟨h5, 0, none⟩, c5, some ⟨h6, 0, none⟩, c6, some ⟨h7, 0, none⟩, c7⟩ : Nd) (ps.take (i + 1) ++ g39 :: ps.drop (i + 1)).length :: ndK (⟨x.p, insL x.kv i (k.kv[o - 1]'(by omega)), some ⟨h5, 0, none⟩, c5, some ⟨h6, 0, none⟩, c6, some ⟨h7, 0, none⟩, c7⟩ : Nd) :: ndV (⟨x.p, insL x.kv i (k.kv[o - 1]'(by omega)), some ⟨h5, 0, none⟩, c5, some ⟨h6, 0, none⟩, c6, some ⟨h7, 0, none⟩, c7⟩ : Nd) :: ndC (⟨x.p, insL x.kv i (k.kv[o - 1]'(by omega)), some ⟨h5, 0, none⟩, c5, some ⟨h6, 0, none⟩, c6, some ⟨h7, 0, none⟩, c7⟩ : Nd) (ps.take (i + 1) ++ g39 :: ps.drop (i + 1)) :: F) rfl rfl (by simp) (Sub.any h H2); simp only [nodeL, List.take_nil, List.drop_nil, List.length_nil, List.map_nil, List.cons_append, List.nil_append] at H3 ⊢; exact Sub.any h H3⟩)
  ·
   first | refine RO.eS rfl rfl (Ef.qt (Qt.load (by kernel_rfl) rfl rfl) ?_) | refine RO.eS rfl rfl (Ef.qt (Qt.load (by kernel_rfl) rfl (map_at _ _ _ (by omega))) ?_) | refine RO.eS rfl rfl (Ef.qt (Qt.load (by kernel_rfl) rfl (flat_cell0 _ _ _ (by intros; rfl) _ (by omega) (by rfl))) ?_) | refine RO.eS rfl rfl (Ef.qt (Qt.load (by kernel_rfl) rfl (flat_cell _ _ _ (by intros; rfl) _ _ (by omega) (by rfl))) ?_) | refine RO.eS rfl rfl (Ef.qt (Qt.load (by kernel_rfl) rfl (bytes_at _ _ (by omega))) ?_)
   refine ⟨Sub.any, ?_⟩
   refine RW.q 13 rfl rfl (by kernel_rfl) Sub.any (Qt.slice_nsn (o - 1) (e := 2) (sz := 1) (by kernel_rfl) rfl rfl rfl (by omega)) ?_
   refine RW.one 5 (by kernel_rfl) ?_
   first | refine RO.eS rfl rfl (Ef.qt (Qt.load (by kernel_rfl) rfl rfl) ?_) | refine RO.eS rfl rfl (Ef.qt (Qt.load (by kernel_rfl) rfl (map_at _ _ _ (by omega))) ?_) | refine RO.eS rfl rfl (Ef.qt (Qt.load (by kernel_rfl) rfl (flat_cell0 _ _ _ (by intros; rfl) _ (by omega) (by rfl))) ?_) | refine RO.eS rfl rfl (Ef.qt (Qt.load (by kernel_rfl) rfl (flat_cell _ _ _ (by intros; rfl) _ _ (by omega) (by rfl))) ?_) | refine RO.eS rfl rfl (Ef.qt (Qt.load (by kernel_rfl) rfl (bytes_at _ _ (by omega))) ?_)
   refine ⟨Sub.any, ?_⟩
   refine RW.q 7 rfl rfl (by kernel_rfl) Sub.any (Qt.slice_nsn (o - 1) (e := 9) (sz := 1) (by kernel_rfl) rfl rfl rfl (by omega)) ?_
   refine RW.q 14 rfl rfl (by kernel_rfl) Sub.any (Qt.nilCheck rfl) ?_
   refine RW.q 15 rfl rfl (by kernel_rfl) Sub.any (Qt.fieldAddr0 (by kernel_rfl) rfl) ?_
   refine RW.one 16 (by kernel_rfl) ?_
   refine RO.eS0 rfl rfl (Ef.store1 (by kernel_rfl) rfl rfl rfl (by first | (simp; done) | (simp; omega)) ?_)
   try simp only [List.set_cons_zero, List.set_cons_succ]
   refine ⟨Sub.any, ?_⟩
   refine RW.done (by rfl) ?_
   simp only [List.drop_succ_cons, List.drop_zero, List.drop_nil]
   refine LW.q rfl (Qt.nilCheck rfl) ?_
   refine LW.q rfl (Qt.fieldAddr (off := 1) (by kernel_rfl) rfl) ?_
   refine LW.e0 rfl (Ef.store1 (by kernel_rfl) rfl rfl rfl (by first | (simp; done) | (simp; omega)) ?_)
   try simp only [List.set_cons_zero, List.set_cons_succ]
   refine LW.done ?_
   first | exact ⟨.inr rfl, _, _, res [] rfl trivial, ⟨⟨x.p, insL x.kv i (k.kv[o - 1]'(by omega)), some ⟨h5, 0, none⟩, c5, some ⟨h6, 0, none⟩, c6, some ⟨h7, 0, none⟩, c7⟩, ⟨k.p, k.kv.take (o - 1), k.ka, k.kc, k.va, k.vc, k.ca, k.cc⟩, ⟨g39, k.kv.drop o, p1, c1, p2, c2, p3, c3⟩, rfl, rfl, rfl, rfl, rfl, rfl, rfl⟩, fun h H => by have H1 := Has.par (x := x) (m := k.kv[o - 1]'(by omega)) (p := g39) (ps := ps) (x' := ⟨x.p, insL x.kv i (k.kv[o - 1]'(by omega)), some ⟨h5, 0, none⟩, c5, some ⟨h6, 0, none⟩, c6, some ⟨h7, 0, none⟩, c7⟩) (qs := ps.take (i + 1) ++ g39 :: ps.drop (i + 1)) (l := blk k.p [.slice k.ka (o - 1) k.kc, .slice k.va (o - 1) k.vc, .slice k.ca o k.cc] 98 :: ndK k :: ndV k :: ndC k kps :: blk g39 [.slice p1 (k.kv.length - o) c1, .slice p2 (k.kv.length - o) c2, .slice p3 (kps.length - o) c3] 98 :: row (.slice p1 (k.kv.length - o) c1) 9 1 (k.kv.length - o) ((k.kv.drop o).map fun q => kT q.1) :: row (.slice p2 (k.kv.length - o) c2) 2 1 (k.kv.length - o) ((k.kv.drop o).map fun q => iV q.2) :: row (.slice p3 (kps.length - o) c3) 95 1 (kps.length - o) ((kps.drop o).map pV) :: trB g o r cnt :: F) rfl rfl hil (by omega) (Sub.any h H); have H2 := Has.lft (y := k) (ps := kps) (j := o - 1) (y' := ⟨k.p, k.kv.take (o - 1), k.ka, k.kc, k.va, k.vc, k.ca, k.cc⟩) (z := o) (l := blk g39 [.slice p1 (k.kv.length - o) c1, .slice p2 (k.kv.length - o) c2, .slice p3 (kps.length - o) c3] 98 :: row (.slice p1 (k.kv.length - o) c1) 9 1 (k.kv.length - o) ((k.kv.drop o).map fun q => kT q.1) :: row (.slice p2 (k.kv.length - o) c2) 2 1 (k.kv.length - o) ((k.kv.drop o).map fun q => iV q.2) :: row (.slice p3 (kps.length - o) c3) 95 1 (kps.length - o) ((kps.drop o).map pV) :: trB g o r cnt :: ndB (⟨x.p, insL x.kv i (k.kv[o - 1]'(by omega)), some ⟨h5, 0, none⟩, c5, some ⟨h6, 0, none⟩, c6, some ⟨h7, 0, none⟩, c7⟩ : Nd) (ps.take (i + 1) ++ g39 :: ps.drop (i + 1)).length :: ndK (⟨x.p, insL x.kv i (k.kv[o - 1]'(by omega)), some ⟨h5, 0, none⟩, c5, some ⟨h6, 0, none⟩, c6, some ⟨h7, 0, none⟩, c7⟩ : Nd) :: ndV (⟨x.p, insL x.kv i (k.kv[o - 1]'(by omega)), some ⟨h5, 0, none⟩, c5, some ⟨h6, 0, none⟩, c6, some ⟨h7, 0, none⟩, c7⟩ : Nd) :: ndC (⟨x.p, insL x.kv i (k.kv[o - 1]'(by omega)), some ⟨h5, 0, none⟩, c5, some ⟨h6, 0, none⟩, c6, some ⟨h7, 0, none⟩, c7⟩ : Nd) (ps.take (i + 1) ++ g39 :: ps.drop (i + 1)) :: F) rfl (by omega) (by omega) (by omega) (by first | exact .inr (by omega) | exact .inl hkl0) (Sub.any h H1); have H3 := Has.rgt (y := k) (ps := kps) (o := o) (z' := ⟨g39, k.kv.drop o, p1, c1, p2, c2, p3, c3⟩) (l := trB g o r cnt :: ndB (⟨k.p, k.kv.take (o - 1), k.ka, k.kc, k.va, k.vc, k.ca, k.cc⟩ : Nd) (kps.take o).length :: ndK (⟨k.p, k.kv.take (o - 1), k.ka, k.kc, k.va, k.vc, k.ca, k.cc⟩ : Nd) :: ndV (⟨k.p, k.kv.take (o - 1), k.ka, k.kc, k.va, k.vc, k.ca, k.cc⟩ : Nd) :: ndC (⟨k.p, k.kv.take (o - 1), k.ka, k.kc, k.va, k.vc, k.ca, k.cc⟩ : Nd) (kps.take o) :: ndB (⟨x.p, insL x.kv i (k.kv[o - 1]'(by omega)), some ⟨h5, 0, none⟩, c5, some ⟨h6, 0, none⟩, c6, some ⟨h7, 0, none⟩, c7⟩ : Nd) (ps.take (i + 1) ++ g39 :: ps.drop (i + 1)).length :: ndK (⟨x.p, insL x.kv i (k.kv[o - 1]'(by omega)), some ⟨h5, 0, none⟩, c5, some ⟨h6, 0, none⟩, c6, some ⟨h7, 0, none⟩, c7⟩ : Nd) :: ndV (⟨x.p, insL x.kv i (k.kv[o - 1]'(by omega)), some ⟨h5, 0, none⟩, c5, some ⟨h6, 0, none⟩, c6, some ⟨h7, 0, none⟩, c7⟩ : Nd) :: ndC (⟨x.p, insL x.kv i (k.kv[o - 1]'(by omega)), some ⟨h5, 0, none⟩, c5, some ⟨h6, 0, none⟩, c6, some ⟨h7, 0, none⟩, c7⟩ : Nd) (ps.take (i + 1) ++ g39 :: ps.drop (i + 1)) :: F) rfl rfl rfl (Sub.any h H2); simp only [nodeL, List.cons_append, List.nil_append]; exact Sub.any h H3⟩ | (subst hkl0; exact ⟨.inr rfl, _, _, res [] rfl trivial, ⟨⟨x.p, insL x.kv i (k.kv[o - 1]'(by omega)), some ⟨h5, 0, none⟩, c5, some ⟨h6, 0, none⟩, c6, some ⟨h7, 0, none⟩, c7⟩, ⟨k.p, k.kv.take (o - 1), k.ka, k.kc, k.va, k.vc, k.ca, k.cc⟩, ⟨g39, k.kv.drop o, p1, c1, p2, c2, none, 0⟩, rfl, rfl, rfl, rfl, rfl, rfl, rfl⟩, fun h H => by have H := Has.rowCast (xs' := (([] : List Nat).drop o).map pV) rfl rfl (by simp) (Has.rowNil (e := 95) (sz := 1) H); simp only [List.length_nil] at H; have H1 := Has.par (x := x) (m := k.kv[o - 1]'(by omega)) (p := g39) (ps := ps) (x' := ⟨x.p, insL x.kv i (k.kv[o - 1]'(by omega)), some ⟨h5, 0, none⟩, c5, some ⟨h6, 0, none⟩, c6, some ⟨h7, 0, none⟩, c7⟩) (qs := ps.take (i + 1) ++ g39 :: ps.drop (i + 1)) (l := blk k.p [.slice k.ka (o - 1) k.kc, .slice k.va (o - 1) k.vc, .slice k.ca 0 k.cc] 98 :: ndK k :: ndV k :: ndC k ([] : List Nat) :: blk g39 [.slice p1 (k.kv.length - o) c1, .slice p2 (k.kv.length - o) c2, .slice none 0 0] 98 :: row (.slice p1 (k.kv.length - o) c1) 9 1 (k.kv.length - o) ((k.kv.drop o).map fun q => kT q.1) :: row (.slice p2 (k.kv.length - o) c2) 2 1 (k.kv.length - o) ((k.kv.drop o).map fun q => iV q.2) :: row (.slice none 0 0) 95 1 0 ((([] : List Nat).drop o).map pV) :: trB g o r cnt :: F) rfl rfl hil (by omega) (Sub.any h H); have H2 := Has.lft (y := k) (ps := ([] : List Nat)) (j := o - 1) (y' := ⟨k.p, k.kv.take (o - 1), k.ka, k.kc, k.va, k.vc, k.ca, k.cc⟩) (z := 0) (l := blk g39 [.slice p1 (k.kv.length - o) c1, .slice p2 (k.kv.length - o) c2, .slice none 0 0] 98 :: row (.slice p1 (k.kv.length - o) c1) 9 1 (k.kv.length - o) ((k.kv.drop o).map fun q => kT q.1) :: row (.slice p2 (k.kv.length - o) c2) 2 1 (k.kv.length - o) ((k.kv.drop o).map fun q => iV q.2) :: row (.slice none 0 0) 95 1 0 ((([] : List Nat).drop o).map pV) :: trB g o r cnt :: ndB (⟨x.p, insL x.kv i (k.kv[o - 1]'(by omega)), some ⟨h5, 0, none⟩, c5, some ⟨h6, 0, none⟩, c6, some ⟨h7, 0, none⟩, c7⟩ : Nd) (ps.take (i + 1) ++ g39 :: ps.drop (i + 1)).length :: ndK (⟨x.p, insL x.kv i (k.kv[o - 1]'(by omega)), some ⟨h5, 0, none⟩, c5, some ⟨h6, 0, none⟩, c6, some ⟨h7, 0, none⟩, c7⟩ : Nd) :: ndV (⟨x.p, insL x.kv i (k.kv[o - 1]'(by omega)), some ⟨h5, 0, none⟩, c5, some ⟨h6, 0, none⟩, c6, some ⟨h7, 0, none⟩, c7⟩ : Nd) :: ndC (⟨x.p, insL x.kv i (k.kv[o - 1]'(by omega)), some ⟨h5, 0, none⟩, c5, some ⟨h6, 0, none⟩, c6, some ⟨h7, 0, none⟩, c7⟩ : Nd) (ps.take (i + 1) ++ g39 :: ps.drop (i + 1)) :: F) rfl (by omega) (by omega) (by omega) (by first | exact .inr (by omega) | exact .inl rfl) (Sub.any h H1); simp only [List.take_nil, List.length_nil] at H2; have H3 := Has.rgt (m := 0) (y := k) (ps := ([] : List Nat)) (o := o) (z' := ⟨g39, k.kv.drop o, p1, c1, p2, c2, none, 0⟩) (l := trB g o r cnt :: ndB (⟨k.p, k.kv.take (o - 1), k.ka, k.kc, k.va, k.vc, k.ca, k.cc⟩ : Nd) 0 :: ndK (⟨k.p, k.kv.take (o - 1), k.ka, k.kc, k.va, k.vc, k.ca, k.cc⟩ : Nd) :: ndV (⟨k.p, k.kv.take (o - 1), k.ka, k.kc, k.va, k.vc, k.ca, k.cc⟩ : Nd) :: ndC (⟨k.p, k.kv.take (o - 1), k.ka, k.kc, k.va, k.vc, k.ca, k.cc⟩ : Nd) ([] : List Nat) :: ndB (⟨x.p, insL x.kv i (k.kv[o - 1]'(by omega)), some ⟨h5, 0, none⟩, c5, some ⟨h6, 0, none⟩, c6, some ⟨h7, 0, none⟩, c7⟩ : Nd) (ps.take (i + 1) ++ g39 :: ps.drop (i + 1)).length :: ndK (⟨x.p, insL x.kv i (k.kv[o - 1]'(by omega)), some ⟨h5, 0, none⟩, c5, some ⟨h6, 0, none⟩, c6, some ⟨h7, 0, none⟩, c7⟩ : Nd) :: ndV (⟨x.p, insL x.kv i (k.kv[o - 1]'(by omega)), some ⟨h5, 0, none⟩, c5, some ⟨h6, 0, none⟩, c6, some ⟨h7, 0, none⟩, c7⟩ : Nd) :: ndC (⟨x.p, insL x.kv i (k.kv[o - 1]'(by omega)), some ⟨h5, 0, none⟩, c5, some ⟨h6, 0, none⟩, c6, some ⟨h7, 0, none⟩, c7⟩ : Nd) (ps.take (i + 1) ++ g39 :: ps.drop (i + 1)) :: F) rfl rfl (by simp) (Sub.any h H2); simp only [nodeL, List.take_nil, List.drop_nil, List.length_nil, List.map_nil, List.cons_append, List.nil_append] at H3 ⊢; exact Sub.any h H3⟩)
 ·
  have hkl0 : kps = [] := List.eq_nil_of_length_eq_zero (by omega)
  refine T.skip ?_
  refine T.seq ?_
  refine T.drawBl 15 none (by kernel_rfl) (Nat.le_of_ble_eq_true rfl) (by kernel_rfl) ?_
  refine RW.q 0 rfl rfl (by kernel_rfl) Sub.any (Qt.move rfl) ?_
  refine RW.q 1 rfl rfl (by kernel_rfl) Sub.any (Qt.move rfl) ?_
  refine RW.q 2 rfl rfl (by kernel_rfl) Sub.any (Qt.nilCheck rfl) ?_
  refine RW.q 3 rfl rfl (by kernel_rfl) Sub.any (Qt.fieldAddr0 (by kernel_rfl) rfl) ?_
  first | refine RW.q 4 rfl rfl (by kernel_rfl) Sub.any (Qt.load (by kernel_rfl) rfl rfl) ?_ | refine RW.q 4 rfl rfl (by kernel_rfl) Sub.any (Qt.load (by kernel_rfl) rfl (map_at _ _ _ (by omega))) ?_ | refine RW.q 4 rfl rfl (by kernel_rfl) Sub.any (Qt.load (by kernel_rfl) rfl (flat_cell0 _ _ _ (by intros; rfl) _ (by omega) (by rfl))) ?_ | refine RW.q 4 rfl rfl (by kernel_rfl) Sub.any (Qt.load (by kernel_rfl) rfl (flat_cell _ _ _ (by intros; rfl) _ _ (by omega) (by rfl))) ?_ | refine RW.q 4 rfl rfl (by kernel_rfl) Sub.any (Qt.load (by kernel_rfl) rfl (bytes_at _ _ (by omega))) ?_
  refine RW.q 5 rfl rfl (by kernel_rfl) Sub.any (Qt.move rfl) ?_
  refine RW.q 6 rfl rfl (by kernel_rfl) Sub.any (Qt.move rfl) ?_
  refine RW.q 7 rfl rfl (by kernel_rfl) Sub.any (Qt.nilCheck rfl) ?_
  refine RW.q 8 rfl rfl (by kernel_rfl) Sub.any (Qt.fieldAddr0 (by kernel_rfl) rfl) ?_
  refine RW.q 9 rfl rfl (by kernel_rfl) Sub.any (Qt.load (v := .slice (some ⟨bk, ok, none⟩) k.kv.length k.kc) (by kernel_rfl) rfl (by rw [← hka]; rfl)) ?_
  refine RW.q 10 rfl rfl (by kernel_rfl) Sub.any (Qt.move rfl) ?_
  refine RW.q 11 rfl rfl (by kernel_rfl) Sub.any (Qt.index _ (e := 9) (sz := 1) (by kernel_rfl) rfl rfl rfl (by omega)) ?_
  refine RW.one 12 (by kernel_rfl) ?_
  first | refine RO.eS rfl rfl (Ef.qt (Qt.loadW (v := kT (k.kv[o - 1]'(by omega)).1) (by kernel_rfl) rfl (fun w ho => by have := hck (o - 1) (by simp; omega) w (ho.map Sub.any); simpa using this)) ?_)
  refine ⟨Sub.any, ?_⟩
  refine RW.one 13 (by kernel_rfl) ?_
  refine RO.eS rfl rfl (Ef.one [_] (e := 9) (sz := 1) (by kernel_rfl) ⟨.string .empty, by kernel_rfl, rfl⟩ rfl rfl rfl (by omega) (by omega) ?_)
  intro g77
  refine ⟨Sub.any, ?_⟩
  refine RW.one 14 (by kernel_rfl) ?_
  refine RO.r rfl rfl (by kernel_rfl) (Ef.call (Lb.insertS B x.ka x.kv.length x.kc i g77 (x.ks.map kT) (kT (k.kv[o - 1]'(by omega)).1) (by simp) hil (by omega) rfl one_kT) Try.func46 rfl rfl rfl ?_)
  rintro _ _ ⟨p5, c5, rfl, ⟨h5, rfl⟩, rfl⟩
  try simp only [List.cons_append, List.nil_append]
  refine RW.done (by rfl) ?_
  simp only [List.drop_succ_cons, List.drop_zero, List.drop_nil]
  refine LW.q rfl (Qt.nilCheck rfl) ?_
  refine LW.q rfl (Qt.fieldAddr0 (by kernel_rfl) rfl) ?_
  refine LW.e0 rfl (Ef.store1 (by kernel_rfl) rfl rfl rfl (by first | (simp; done) | (simp; omega)) ?_)
  try simp only [List.set_cons_zero, List.set_cons_succ]
  refine LW.done ?_
  refine T.seq ?_
  refine T.drawBl 15 none (by kernel_rfl) (Nat.le_of_ble_eq_true rfl) (by kernel_rfl) ?_
  refine RW.q 0 rfl rfl (by kernel_rfl) Sub.any (Qt.move rfl) ?_
  refine RW.q 1 rfl rfl (by kernel_rfl) Sub.any (Qt.move rfl) ?_
  refine RW.q 2 rfl rfl (by kernel_rfl) Sub.any (Qt.nilCheck rfl) ?_
  refine RW.q 3 rfl rfl (by kernel_rfl) Sub.any (Qt.fieldAddr (off := 1) (by kernel_rfl) rfl) ?_
  first | refine RW.q 4 rfl rfl (by kernel_rfl) Sub.any (Qt.load (by kernel_rfl) rfl rfl) ?_ | refine RW.q 4 rfl rfl (by kernel_rfl) Sub.any (Qt.load (by kernel_rfl) rfl (map_at _ _ _ (by omega))) ?_ | refine RW.q 4 rfl rfl (by kernel_rfl) Sub.any (Qt.load (by kernel_rfl) rfl (flat_cell0 _ _ _ (by intros; rfl) _ (by omega) (by rfl))) ?_ | refine RW.q 4 rfl rfl (by kernel_rfl) Sub.any (Qt.load (by kernel_rfl) rfl (flat_cell _ _ _ (by intros; rfl) _ _ (by omega) (by rfl))) ?_ | refine RW.q 4 rfl rfl (by kernel_rfl) Sub.any (Qt.load (by kernel_rfl) rfl (bytes_at _ _ (by omega))) ?_
  refine RW.q 5 rfl rfl (by kernel_rfl) Sub.any (Qt.move rfl) ?_
  refine RW.q 6 rfl rfl (by kernel_rfl) Sub.any (Qt.move rfl) ?_
  refine RW.q 7 rfl rfl (by kernel_rfl) Sub.any (Qt.nilCheck rfl) ?_
  refine RW.q 8 rfl rfl (by kernel_rfl) Sub.any (Qt.fieldAddr (off := 1) (by kernel_rfl) rfl) ?_
  refine RW.q 9 rfl rfl (by kernel_rfl) Sub.any (Qt.load (v := .slice (some ⟨bv, ov, none⟩) k.kv.length k.vc) (by kernel_rfl) rfl (by rw [← hva]; rfl)) ?_
  refine RW.q 10 rfl rfl (by kernel_rfl) Sub.any (Qt.move rfl) ?_
  refine RW.q 11 rfl rfl (by kernel_rfl) Sub.any (Qt.index _ (e := 2) (sz := 1) (by kernel_rfl) rfl rfl rfl (by omega)) ?_
  refine RW.one 12 (by kernel_rfl) ?_
  first | refine RO.eS rfl rfl (Ef.qt (Qt.loadW (v := iV (k.kv[o - 1]'(by omega)).2) (by kernel_rfl) rfl (fun w ho => by have := hcv (o - 1) (by simp; omega) w (ho.map Sub.any); simpa using this)) ?_)
  refine ⟨Sub.any, ?_⟩
  refine RW.one 13 (by kernel_rfl) ?_
  refine RO.eS rfl rfl (Ef.one [_] (e := 2) (sz := 1) (by kernel_rfl) ⟨.int .i64 0, by kernel_rfl, rfl⟩ rfl rfl rfl (by omega) (by omega) ?_)
  intro g94
  refine ⟨Sub.any, ?_⟩
  refine RW.one 14 (by kernel_rfl) ?_
  refine RO.r rfl rfl (by kernel_rfl) (Ef.call (Lb.insertI B x.va x.kv.length x.vc i g94 (x.vs.map iV) (iV (k.kv[o - 1]'(by omega)).2) (by simp) hil (by omega) rfl (by intro v hv; obtain ⟨_, _, rfl⟩ := List.mem_map.1 hv; rfl)) Try.func47 rfl rfl rfl ?_)
  rintro _ _ ⟨p6, c6, rfl, ⟨h6, rfl⟩, rfl⟩
  try simp only [List.cons_append, List.nil_append]
  refine RW.done (by rfl) ?_
  simp only [List.drop_succ_cons, List.drop_zero, List.drop_nil]
  refine LW.q rfl (Qt.nilCheck rfl) ?_
  refine LW.q rfl (Qt.fieldAddr (off := 1) (by kernel_rfl) rfl) ?_
  refine LW.e0 rfl (Ef.store1 (by kernel_rfl) rfl rfl rfl (by first | (simp; done) | (simp; omega)) ?_)
  try simp only [List.set_cons_zero, List.set_cons_succ]
  refine LW.done ?_
  refine T.seq ?_
  refine T.region ?_
  refine LW.q rfl (Qt.move rfl) ?_
  refine LW.q rfl (Qt.move rfl) ?_
  refine LW.q rfl (Qt.nilCheck rfl) ?_
  refine LW.q rfl (Qt.fieldAddr (off := 2) (by kernel_rfl) rfl) ?_
  first | refine LW.q rfl (Qt.load (by kernel_rfl) rfl rfl) ?_ | refine LW.q rfl (Qt.load (by kernel_rfl) rfl (map_at _ _ _ (by omega))) ?_ | refine LW.q rfl (Qt.load (by kernel_rfl) rfl (flat_cell0 _ _ _ (by intros; rfl) _ (by omega) (by rfl))) ?_ | refine LW.q rfl (Qt.load (by kernel_rfl) rfl (flat_cell _ _ _ (by intros; rfl) _ _ (by omega) (by rfl))) ?_ | refine LW.q rfl (Qt.load (by kernel_rfl) rfl (bytes_at _ _ (by omega))) ?_
  refine LW.q rfl (Qt.move rfl) ?_
  refine LW.q rfl (Qt.add rfl rfl (wr64 (by omega) (by omega))) ?_
  refine LW.q rfl (Qt.move rfl) ?_
  refine LW.e rfl (Ef.one [_] (e := 95) (sz := 1) (by kernel_rfl) ⟨.pointer none, by kernel_rfl, rfl⟩ rfl rfl rfl (by omega) (by omega) ?_)
  intro g106
  refine LW.e rfl (Ef.call (Lb.insertN B x.ca ps.length x.cc (i + 1) g106 (ps.map pV) (pV g39) (by simp) (by omega) (by omega) rfl (by intro v hv; obtain ⟨_, _, rfl⟩ := List.mem_map.1 hv; rfl)) Try.func71 rfl rfl rfl ?_)
  rintro _ _ ⟨p7, c7, rfl, ⟨h7, rfl⟩, rfl⟩
  try simp only [List.cons_append, List.nil_append]
  refine LW.q rfl (Qt.nilCheck rfl) ?_
  refine LW.q rfl (Qt.fieldAddr (off := 2) (by kernel_rfl) rfl) ?_
  refine LW.e0 rfl (Ef.store1 (by kernel_rfl) rfl rfl rfl (by first | (simp; done) | (simp; omega)) ?_)
  try simp only [List.set_cons_zero, List.set_cons_succ]
  refine LW.done ?_
  refine T.draw 17 ([]) (by kernel_rfl) (Nat.le_of_ble_eq_true rfl) (by kernel_rfl) ?_
  refine RW.q 0 rfl rfl (by kernel_rfl) Sub.any (Qt.move rfl) ?_
  refine RW.q 1 rfl rfl (by kernel_rfl) Sub.any (Qt.move rfl) ?_
  refine RW.q 2 rfl rfl (by kernel_rfl) Sub.any (Qt.move rfl) ?_
  refine RW.q 3 rfl rfl (by kernel_rfl) Sub.any (Qt.nilCheck rfl) ?_
  refine RW.q 4 rfl rfl (by kernel_rfl) Sub.any (Qt.fieldAddr0 (by kernel_rfl) rfl) ?_
  refine RW.q 6 rfl rfl (by kernel_rfl) Sub.any (Qt.move rfl) ?_
  refine RW.q 8 rfl rfl (by kernel_rfl) Sub.any (Qt.move rfl) ?_
  refine RW.q 9 rfl rfl (by kernel_rfl) Sub.any (Qt.nilCheck rfl) ?_
  refine RW.q 10 rfl rfl (by kernel_rfl) Sub.any (Qt.fieldAddr (off := 1) (by kernel_rfl) rfl) ?_
  refine RW.q 12 rfl rfl (by kernel_rfl) Sub.any (Qt.move rfl) ?_
  refine RW.all [5, 11] (by kernel_rfl) (List.forall_mem_cons.2 ⟨?_, List.forall_mem_cons.2 ⟨?_, List.forall_mem_nil _⟩⟩)
  ·
   first | refine RO.eS rfl rfl (Ef.qt (Qt.load (by kernel_rfl) rfl rfl) ?_) | refine RO.eS rfl rfl (Ef.qt (Qt.load (by kernel_rfl) rfl (map_at _ _ _ (by omega))) ?_) | refine RO.eS rfl rfl (Ef.qt (Qt.load (by kernel_rfl) rfl (flat_cell0 _ _ _ (by intros; rfl) _ (by omega) (by rfl))) ?_) | refine RO.eS rfl rfl (Ef.qt (Qt.load (by kernel_rfl) rfl (flat_cell _ _ _ (by intros; rfl) _ _ (by omega) (by rfl))) ?_) | refine RO.eS rfl rfl (Ef.qt (Qt.load (by kernel_rfl) rfl (bytes_at _ _ (by omega))) ?_)
   refine ⟨Sub.any, ?_⟩
   refine RW.q 7 rfl rfl (by kernel_rfl) Sub.any (Qt.slice_nsn (o - 1) (e := 9) (sz := 1) (by kernel_rfl) rfl rfl rfl (by omega)) ?_
   refine RW.one 11 (by kernel_rfl) ?_
   first | refine RO.eS rfl rfl (Ef.qt (Qt.load (by kernel_rfl) rfl rfl) ?_) | refine RO.eS rfl rfl (Ef.qt (Qt.load (by kernel_rfl) rfl (map_at _ _ _ (by omega))) ?_) | refine RO.eS rfl rfl (Ef.qt (Qt.load (by kernel_rfl) rfl (flat_cell0 _ _ _ (by intros; rfl) _ (by omega) (by rfl))) ?_) | refine RO.eS rfl rfl (Ef.qt (Qt.load (by kernel_rfl) rfl (flat_cell _ _ _ (by intros; rfl) _ _ (by omega) (by rfl))) ?_) | refine RO.eS rfl rfl (Ef.qt (Qt.load (by kernel_rfl) rfl (bytes_at _ _ (by omega))) ?_)
   refine ⟨Sub.any, ?_⟩
   refine RW.q 13 rfl rfl (by kernel_rfl) Sub.any (Qt.slice_nsn (o - 1) (e := 2) (sz := 1) (by kernel_rfl) rfl rfl rfl (by omega)) ?_
   refine RW.q 14 rfl rfl (by kernel_rfl) Sub.any (Qt.nilCheck rfl) ?_
   refine RW.q 15 rfl rfl (by kernel_rfl) Sub.any (Qt.fieldAddr0 (by kernel_rfl) rfl) ?_
   refine RW.one 16 (by kernel_rfl) ?_
   refine RO.eS0 rfl rfl (Ef.store1 (by kernel_rfl) rfl rfl rfl (by first | (simp; done) | (simp; omega)) ?_)
   try simp only [List.set_cons_zero, List.set_cons_succ]
   refine ⟨Sub.any, ?_⟩
   refine RW.done (by rfl) ?_
   simp only [List.drop_succ_cons, List.drop_zero, List.drop_nil]
   refine LW.q rfl (Qt.nilCheck rfl) ?_
   refine LW.q rfl (Qt.fieldAddr (off := 1) (by kernel_rfl) rfl) ?_
   refine LW.e0 rfl (Ef.store1 (by kernel_rfl) rfl rfl rfl (by first | (simp; done) | (simp; omega)) ?_)
   try simp only [List.set_cons_zero, List.set_cons_succ]
   refine LW.done ?_
   first | exact ⟨.inr rfl, _, _, res [] rfl trivial, ⟨⟨x.p, insL x.kv i (k.kv[o - 1]'(by omega)), some ⟨h5, 0, none⟩, c5, some ⟨h6, 0, none⟩, c6, some ⟨h7, 0, none⟩, c7⟩, ⟨k.p, k.kv.take (o - 1), k.ka, k.kc, k.va, k.vc, k.ca, k.cc⟩, ⟨g39, k.kv.drop o, p1, c1, p2, c2, p3, c3⟩, rfl, rfl, rfl, rfl, rfl, rfl, rfl⟩, fun h H => by have H1 := Has.par (x := x) (m := k.kv[o - 1]'(by omega)) (p := g39) (ps := ps) (x' := ⟨x.p, insL x.kv i (k.kv[o - 1]'(by omega)), some ⟨h5, 0, none⟩, c5, some ⟨h6, 0, none⟩, c6, some ⟨h7, 0, none⟩, c7⟩) (qs := ps.take (i + 1) ++ g39 :: ps.drop (i + 1)) (l := blk k.p [.slice k.ka (o - 1) k.kc, .slice k.va (o - 1) k.vc, .slice k.ca o k.cc] 98 :: ndK k :: ndV k :: ndC k kps :: blk g39 [.slice p1 (k.kv.length - o) c1, .slice p2 (k.kv.length - o) c2, .slice p3 (kps.length - o) c3] 98 :: row (.slice p1 (k.kv.length - o) c1) 9 1 (k.kv.length - o) ((k.kv.drop o).map fun q => kT q.1) :: row (.slice p2 (k.kv.length - o) c2) 2 1 (k.kv.length - o) ((k.kv.drop o).map fun q => iV q.2) :: row (.slice p3 (kps.length - o) c3) 95 1 (kps.length - o) ((kps.drop o).map pV) :: trB g o r cnt :: F) rfl rfl hil (by omega) (Sub.any h H); have H2 := Has.lft (y := k) (ps := kps) (j := o - 1) (y' := ⟨k.p, k.kv.take (o - 1), k.ka, k.kc, k.va, k.vc, k.ca, k.cc⟩) (z := o) (l := blk g39 [.slice p1 (k.kv.length - o) c1, .slice p2 (k.kv.length - o) c2, .slice p3 (kps.length - o) c3] 98 :: row (.slice p1 (k.kv.length - o) c1) 9 1 (k.kv.length - o) ((k.kv.drop o).map fun q => kT q.1) :: row (.slice p2 (k.kv.length - o) c2) 2 1 (k.kv.length - o) ((k.kv.drop o).map fun q => iV q.2) :: row (.slice p3 (kps.length - o) c3) 95 1 (kps.length - o) ((kps.drop o).map pV) :: trB g o r cnt :: ndB (⟨x.p, insL x.kv i (k.kv[o - 1]'(by omega)), some ⟨h5, 0, none⟩, c5, some ⟨h6, 0, none⟩, c6, some ⟨h7, 0, none⟩, c7⟩ : Nd) (ps.take (i + 1) ++ g39 :: ps.drop (i + 1)).length :: ndK (⟨x.p, insL x.kv i (k.kv[o - 1]'(by omega)), some ⟨h5, 0, none⟩, c5, some ⟨h6, 0, none⟩, c6, some ⟨h7, 0, none⟩, c7⟩ : Nd) :: ndV (⟨x.p, insL x.kv i (k.kv[o - 1]'(by omega)), some ⟨h5, 0, none⟩, c5, some ⟨h6, 0, none⟩, c6, some ⟨h7, 0, none⟩, c7⟩ : Nd) :: ndC (⟨x.p, insL x.kv i (k.kv[o - 1]'(by omega)), some ⟨h5, 0, none⟩, c5, some ⟨h6, 0, none⟩, c6, some ⟨h7, 0, none⟩, c7⟩ : Nd) (ps.take (i + 1) ++ g39 :: ps.drop (i + 1)) :: F) rfl (by omega) (by omega) (by omega) (by first | exact .inr (by omega) | exact .inl hkl0) (Sub.any h H1); have H3 := Has.rgt (y := k) (ps := kps) (o := o) (z' := ⟨g39, k.kv.drop o, p1, c1, p2, c2, p3, c3⟩) (l := trB g o r cnt :: ndB (⟨k.p, k.kv.take (o - 1), k.ka, k.kc, k.va, k.vc, k.ca, k.cc⟩ : Nd) (kps.take o).length :: ndK (⟨k.p, k.kv.take (o - 1), k.ka, k.kc, k.va, k.vc, k.ca, k.cc⟩ : Nd) :: ndV (⟨k.p, k.kv.take (o - 1), k.ka, k.kc, k.va, k.vc, k.ca, k.cc⟩ : Nd) :: ndC (⟨k.p, k.kv.take (o - 1), k.ka, k.kc, k.va, k.vc, k.ca, k.cc⟩ : Nd) (kps.take o) :: ndB (⟨x.p, insL x.kv i (k.kv[o - 1]'(by omega)), some ⟨h5, 0, none⟩, c5, some ⟨h6, 0, none⟩, c6, some ⟨h7, 0, none⟩, c7⟩ : Nd) (ps.take (i + 1) ++ g39 :: ps.drop (i + 1)).length :: ndK (⟨x.p, insL x.kv i (k.kv[o - 1]'(by omega)), some ⟨h5, 0, none⟩, c5, some ⟨h6, 0, none⟩, c6, some ⟨h7, 0, none⟩, c7⟩ : Nd) :: ndV (⟨x.p, insL x.kv i (k.kv[o - 1]'(by omega)), some ⟨h5, 0, none⟩, c5, some ⟨h6, 0, none⟩, c6, some ⟨h7, 0, none⟩, c7⟩ : Nd) :: ndC (⟨x.p, insL x.kv i (k.kv[o - 1]'(by omega)), some ⟨h5, 0, none⟩, c5, some ⟨h6, 0, none⟩, c6, some ⟨h7, 0, none⟩, c7⟩ : Nd) (ps.take (i + 1) ++ g39 :: ps.drop (i + 1)) :: F) rfl rfl rfl (Sub.any h H2); simp only [nodeL, List.cons_append, List.nil_append]; exact Sub.any h H3⟩ | (subst hkl0; exact ⟨.inr rfl, _, _, res [] rfl trivial, ⟨⟨x.p, insL x.kv i (k.kv[o - 1]'(by omega)), some ⟨h5, 0, none⟩, c5, some ⟨h6, 0, none⟩, c6, some ⟨h7, 0, none⟩, c7⟩, ⟨k.p, k.kv.take (o - 1), k.ka, k.kc, k.va, k.vc, k.ca, k.cc⟩, ⟨g39, k.kv.drop o, p1, c1, p2, c2, none, 0⟩, rfl, rfl, rfl, rfl, rfl, rfl, rfl⟩, fun h H => by have H := Has.rowCast (xs' := (([] : List Nat).drop o).map pV) rfl rfl (by simp) (Has.rowNil (e := 95) (sz := 1) H); simp only [List.length_nil] at H; have H1 := Has.par (x := x) (m := k.kv[o - 1]'(by omega)) (p := g39) (ps := ps) (x' := ⟨x.p, insL x.kv i (k.kv[o - 1]'(by omega)), some ⟨h5, 0, none⟩, c5, some ⟨h6, 0, none⟩, c6, some ⟨h7, 0, none⟩, c7⟩) (qs := ps.take (i + 1) ++ g39 :: ps.drop (i + 1)) (l := blk k.p [.slice k.ka (o - 1) k.kc, .slice k.va (o - 1) k.vc, .slice k.ca 0 k.cc] 98 :: ndK k :: ndV k :: ndC k ([] : List Nat) :: blk g39 [.slice p1 (k.kv.length - o) c1, .slice p2 (k.kv.length - o) c2, .slice none 0 0] 98 :: row (.slice p1 (k.kv.length - o) c1) 9 1 (k.kv.length - o) ((k.kv.drop o).map fun q => kT q.1) :: row (.slice p2 (k.kv.length - o) c2) 2 1 (k.kv.length - o) ((k.kv.drop o).map fun q => iV q.2) :: row (.slice none 0 0) 95 1 0 ((([] : List Nat).drop o).map pV) :: trB g o r cnt :: F) rfl rfl hil (by omega) (Sub.any h H); have H2 := Has.lft (y := k) (ps := ([] : List Nat)) (j := o - 1) (y' := ⟨k.p, k.kv.take (o - 1), k.ka, k.kc, k.va, k.vc, k.ca, k.cc⟩) (z := 0) (l := blk g39 [.slice p1 (k.kv.length - o) c1, .slice p2 (k.kv.length - o) c2, .slice none 0 0] 98 :: row (.slice p1 (k.kv.length - o) c1) 9 1 (k.kv.length - o) ((k.kv.drop o).map fun q => kT q.1) :: row (.slice p2 (k.kv.length - o) c2) 2 1 (k.kv.length - o) ((k.kv.drop o).map fun q => iV q.2) :: row (.slice none 0 0) 95 1 0 ((([] : List Nat).drop o).map pV) :: trB g o r cnt :: ndB (⟨x.p, insL x.kv i (k.kv[o - 1]'(by omega)), some ⟨h5, 0, none⟩, c5, some ⟨h6, 0, none⟩, c6, some ⟨h7, 0, none⟩, c7⟩ : Nd) (ps.take (i + 1) ++ g39 :: ps.drop (i + 1)).length :: ndK (⟨x.p, insL x.kv i (k.kv[o - 1]'(by omega)), some ⟨h5, 0, none⟩, c5, some ⟨h6, 0, none⟩, c6, some ⟨h7, 0, none⟩, c7⟩ : Nd) :: ndV (⟨x.p, insL x.kv i (k.kv[o - 1]'(by omega)), some ⟨h5, 0, none⟩, c5, some ⟨h6, 0, none⟩, c6, some ⟨h7, 0, none⟩, c7⟩ : Nd) :: ndC (⟨x.p, insL x.kv i (k.kv[o - 1]'(by omega)), some ⟨h5, 0, none⟩, c5, some ⟨h6, 0, none⟩, c6, some ⟨h7, 0, none⟩, c7⟩ : Nd) (ps.take (i + 1) ++ g39 :: ps.drop (i + 1)) :: F) rfl (by omega) (by omega) (by omega) (by first | exact .inr (by omega) | exact .inl rfl) (Sub.any h H1); simp only [List.take_nil, List.length_nil] at H2; have H3 := Has.rgt (m := 0) (y := k) (ps := ([] : List Nat)) (o := o) (z' := ⟨g39, k.kv.drop o, p1, c1, p2, c2, none, 0⟩) (l := trB g o r cnt :: ndB (⟨k.p, k.kv.take (o - 1), k.ka, k.kc, k.va, k.vc, k.ca, k.cc⟩ : Nd) 0 :: ndK (⟨k.p, k.kv.take (o - 1), k.ka, k.kc, k.va, k.vc, k.ca, k.cc⟩ : Nd) :: ndV (⟨k.p, k.kv.take (o - 1), k.ka, k.kc, k.va, k.vc, k.ca, k.cc⟩ : Nd) :: ndC (⟨k.p, k.kv.take (o - 1), k.ka, k.kc, k.va, k.vc, k.ca, k.cc⟩ : Nd) ([] : List Nat) :: ndB (⟨x.p, insL x.kv i (k.kv[o - 1]'(by omega)), some ⟨h5, 0, none⟩, c5, some ⟨h6, 0, none⟩, c6, some ⟨h7, 0, none⟩, c7⟩ : Nd) (ps.take (i + 1) ++ g39 :: ps.drop (i + 1)).length :: ndK (⟨x.p, insL x.kv i (k.kv[o - 1]'(by omega)), some ⟨h5, 0, none⟩, c5, some ⟨h6, 0, none⟩, c6, some ⟨h7, 0, none⟩, c7⟩ : Nd) :: ndV (⟨x.p, insL x.kv i (k.kv[o - 1]'(by omega)), some ⟨h5, 0, none⟩, c5, some ⟨h6, 0, none⟩, c6, some ⟨h7, 0, none⟩, c7⟩ : Nd) :: ndC (⟨x.p, insL x.kv i (k.kv[o - 1]'(by omega)), some ⟨h5, 0, none⟩, c5, some ⟨h6, 0, none⟩, c6, some ⟨h7, 0, none⟩, c7⟩ : Nd) (ps.take (i + 1) ++ g39 :: ps.drop (i + 1)) :: F) rfl rfl (by simp) (Sub.any h H2); simp only [nodeL, List.take_nil, List.drop_nil, List.length_nil, List.map_nil, List.cons_append, List.nil_append] at H3 ⊢; exact Sub.any h H3⟩)
  ·
   first | refine RO.eS rfl rfl (Ef.qt (Qt.load (by kernel_rfl) rfl rfl) ?_) | refine RO.eS rfl rfl (Ef.qt (Qt.load (by kernel_rfl) rfl (map_at _ _ _ (by omega))) ?_) | refine RO.eS rfl rfl (Ef.qt (Qt.load (by kernel_rfl) rfl (flat_cell0 _ _ _ (by intros; rfl) _ (by omega) (by rfl))) ?_) | refine RO.eS rfl rfl (Ef.qt (Qt.load (by kernel_rfl) rfl (flat_cell _ _ _ (by intros; rfl) _ _ (by omega) (by rfl))) ?_) | refine RO.eS rfl rfl (Ef.qt (Qt.load (by kernel_rfl) rfl (bytes_at _ _ (by omega))) ?_)
   refine ⟨Sub.any, ?_⟩
   refine RW.q 13 rfl rfl (by kernel_rfl) Sub.any (Qt.slice_nsn (o - 1) (e := 2) (sz := 1) (by kernel_rfl) rfl rfl rfl (by omega)) ?_
   refine RW.one 5 (by kernel_rfl) ?_
   first | refine RO.eS rfl rfl (Ef.qt (Qt.load (by kernel_rfl) rfl rfl) ?_) | refine RO.eS rfl rfl (Ef.qt (Qt.load (by kernel_rfl) rfl (map_at _ _ _ (by omega))) ?_) | refine RO.eS rfl rfl (Ef.qt (Qt.load (by kernel_rfl) rfl (flat_cell0 _ _ _ (by intros; rfl) _ (by omega) (by rfl))) ?_) | refine RO.eS rfl rfl (Ef.qt (Qt.load (by kernel_rfl) rfl (flat_cell _ _ _ (by intros; rfl) _ _ (by omega) (by rfl))) ?_) | refine RO.eS rfl rfl (Ef.qt (Qt.load (by kernel_rfl) rfl (bytes_at _ _ (by omega))) ?_)
   refine ⟨Sub.any, ?_⟩
   refine RW.q 7 rfl rfl (by kernel_rfl) Sub.any (Qt.slice_nsn (o - 1) (e := 9) (sz := 1) (by kernel_rfl) rfl rfl rfl (by omega)) ?_
   refine RW.q 14 rfl rfl (by kernel_rfl) Sub.any (Qt.nilCheck rfl) ?_
   refine RW.q 15 rfl rfl (by kernel_rfl) Sub.any (Qt.fieldAddr0 (by kernel_rfl) rfl) ?_
   refine RW.one 16 (by kernel_rfl) ?_
   refine RO.eS0 rfl rfl (Ef.store1 (by kernel_rfl) rfl rfl rfl (by first | (simp; done) | (simp; omega)) ?_)
   try simp only [List.set_cons_zero, List.set_cons_succ]
   refine ⟨Sub.any, ?_⟩
   refine RW.done (by rfl) ?_
   simp only [List.drop_succ_cons, List.drop_zero, List.drop_nil]
   refine LW.q rfl (Qt.nilCheck rfl) ?_
   refine LW.q rfl (Qt.fieldAddr (off := 1) (by kernel_rfl) rfl) ?_
   refine LW.e0 rfl (Ef.store1 (by kernel_rfl) rfl rfl rfl (by first | (simp; done) | (simp; omega)) ?_)
   try simp only [List.set_cons_zero, List.set_cons_succ]
   refine LW.done ?_
   first | exact ⟨.inr rfl, _, _, res [] rfl trivial, ⟨⟨x.p, insL x.kv i (k.kv[o - 1]'(by omega)), some ⟨h5, 0, none⟩, c5, some ⟨h6, 0, none⟩, c6, some ⟨h7, 0, none⟩, c7⟩, ⟨k.p, k.kv.take (o - 1), k.ka, k.kc, k.va, k.vc, k.ca, k.cc⟩, ⟨g39, k.kv.drop o, p1, c1, p2, c2, p3, c3⟩, rfl, rfl, rfl, rfl, rfl, rfl, rfl⟩, fun h H => by have H1 := Has.par (x := x) (m := k.kv[o - 1]'(by omega)) (p := g39) (ps := ps) (x' := ⟨x.p, insL x.kv i (k.kv[o - 1]'(by omega)), some ⟨h5, 0, none⟩, c5, some ⟨h6, 0, none⟩, c6, some ⟨h7, 0, none⟩, c7⟩) (qs := ps.take (i + 1) ++ g39 :: ps.drop (i + 1)) (l := blk k.p [.slice k.ka (o - 1) k.kc, .slice k.va (o - 1) k.vc, .slice k.ca o k.cc] 98 :: ndK k :: ndV k :: ndC k kps :: blk g39 [.slice p1 (k.kv.length - o) c1, .slice p2 (k.kv.length - o) c2, .slice p3 (kps.length - o) c3] 98 :: row (.slice p1 (k.kv.length - o) c1) 9 1 (k.kv.length - o) ((k.kv.drop o).map fun q => kT q.1) :: row (.slice p2 (k.kv.length - o) c2) 2 1 (k.kv.length - o) ((k.kv.drop o).map fun q => iV q.2) :: row (.slice p3 (kps.length - o) c3) 95 1 (kps.length - o) ((kps.drop o).map pV) :: trB g o r cnt :: F) rfl rfl hil (by omega) (Sub.any h H); have H2 := Has.lft (y := k) (ps := kps) (j := o - 1) (y' := ⟨k.p, k.kv.take (o - 1), k.ka, k.kc, k.va, k.vc, k.ca, k.cc⟩) (z := o) (l := blk g39 [.slice p1 (k.kv.length - o) c1, .slice p2 (k.kv.length - o) c2, .slice p3 (kps.length - o) c3] 98 :: row (.slice p1 (k.kv.length - o) c1) 9 1 (k.kv.length - o) ((k.kv.drop o).map fun q => kT q.1) :: row (.slice p2 (k.kv.length - o) c2) 2 1 (k.kv.length - o) ((k.kv.drop o).map fun q => iV q.2) :: row (.slice p3 (kps.length - o) c3) 95 1 (kps.length - o) ((kps.drop o).map pV) :: trB g o r cnt :: ndB (⟨x.p, insL x.kv i (k.kv[o - 1]'(by omega)), some ⟨h5, 0, none⟩, c5, some ⟨h6, 0, none⟩, c6, some ⟨h7, 0, none⟩, c7⟩ : Nd) (ps.take (i + 1) ++ g39 :: ps.drop (i + 1)).length :: ndK (⟨x.p, insL x.kv i (k.kv[o - 1]'(by omega)), some ⟨h5, 0, none⟩, c5, some ⟨h6, 0, none⟩, c6, some ⟨h7, 0, none⟩, c7⟩ : Nd) :: ndV (⟨x.p, insL x.kv i (k.kv[o - 1]'(by omega)), some ⟨h5, 0, none⟩, c5, some ⟨h6, 0, none⟩, c6, some ⟨h7, 0, none⟩, c7⟩ : Nd) :: ndC (⟨x.p, insL x.kv i (k.kv[o - 1]'(by omega)), some ⟨h5, 0, none⟩, c5, some ⟨h6, 0, none⟩, c6, some ⟨h7, 0, none⟩, c7⟩ : Nd) (ps.take (i + 1) ++ g39 :: ps.drop (i + 1)) :: F) rfl (by omega) (by omega) (by omega) (by first | exact .inr (by omega) | exact .inl hkl0) (Sub.any h H1); have H3 := Has.rgt (y := k) (ps := kps) (o := o) (z' := ⟨g39, k.kv.drop o, p1, c1, p2, c2, p3, c3⟩) (l := trB g o r cnt :: ndB (⟨k.p, k.kv.take (o - 1), k.ka, k.kc, k.va, k.vc, k.ca, k.cc⟩ : Nd) (kps.take o).length :: ndK (⟨k.p, k.kv.take (o - 1), k.ka, k.kc, k.va, k.vc, k.ca, k.cc⟩ : Nd) :: ndV (⟨k.p, k.kv.take (o - 1), k.ka, k.kc, k.va, k.vc, k.ca, k.cc⟩ : Nd) :: ndC (⟨k.p, k.kv.take (o - 1), k.ka, k.kc, k.va, k.vc, k.ca, k.cc⟩ : Nd) (kps.take o) :: ndB (⟨x.p, insL x.kv i (k.kv[o - 1]'(by omega)), some ⟨h5, 0, none⟩, c5, some ⟨h6, 0, none⟩, c6, some ⟨h7, 0, none⟩, c7⟩ : Nd) (ps.take (i + 1) ++ g39 :: ps.drop (i + 1)).length :: ndK (⟨x.p, insL x.kv i (k.kv[o - 1]'(by omega)), some ⟨h5, 0, none⟩, c5, some ⟨h6, 0, none⟩, c6, some ⟨h7, 0, none⟩, c7⟩ : Nd) :: ndV (⟨x.p, insL x.kv i (k.kv[o - 1]'(by omega)), some ⟨h5, 0, none⟩, c5, some ⟨h6, 0, none⟩, c6, some ⟨h7, 0, none⟩, c7⟩ : Nd) :: ndC (⟨x.p, insL x.kv i (k.kv[o - 1]'(by omega)), some ⟨h5, 0, none⟩, c5, some ⟨h6, 0, none⟩, c6, some ⟨h7, 0, none⟩, c7⟩ : Nd) (ps.take (i + 1) ++ g39 :: ps.drop (i + 1)) :: F) rfl rfl rfl (Sub.any h H2); simp only [nodeL, List.cons_append, List.nil_append]; exact Sub.any h H3⟩ | (subst hkl0; exact ⟨.inr rfl, _, _, res [] rfl trivial, ⟨⟨x.p, insL x.kv i (k.kv[o - 1]'(by omega)), some ⟨h5, 0, none⟩, c5, some ⟨h6, 0, none⟩, c6, some ⟨h7, 0, none⟩, c7⟩, ⟨k.p, k.kv.take (o - 1), k.ka, k.kc, k.va, k.vc, k.ca, k.cc⟩, ⟨g39, k.kv.drop o, p1, c1, p2, c2, none, 0⟩, rfl, rfl, rfl, rfl, rfl, rfl, rfl⟩, fun h H => by have H := Has.rowCast (xs' := (([] : List Nat).drop o).map pV) rfl rfl (by simp) (Has.rowNil (e := 95) (sz := 1) H); simp only [List.length_nil] at H; have H1 := Has.par (x := x) (m := k.kv[o - 1]'(by omega)) (p := g39) (ps := ps) (x' := ⟨x.p, insL x.kv i (k.kv[o - 1]'(by omega)), some ⟨h5, 0, none⟩, c5, some ⟨h6, 0, none⟩, c6, some ⟨h7, 0, none⟩, c7⟩) (qs := ps.take (i + 1) ++ g39 :: ps.drop (i + 1)) (l := blk k.p [.slice k.ka (o - 1) k.kc, .slice k.va (o - 1) k.vc, .slice k.ca 0 k.cc] 98 :: ndK k :: ndV k :: ndC k ([] : List Nat) :: blk g39 [.slice p1 (k.kv.length - o) c1, .slice p2 (k.kv.length - o) c2, .slice none 0 0] 98 :: row (.slice p1 (k.kv.length - o) c1) 9 1 (k.kv.length - o) ((k.kv.drop o).map fun q => kT q.1) :: row (.slice p2 (k.kv.length - o) c2) 2 1 (k.kv.length - o) ((k.kv.drop o).map fun q => iV q.2) :: row (.slice none 0 0) 95 1 0 ((([] : List Nat).drop o).map pV) :: trB g o r cnt :: F) rfl rfl hil (by omega) (Sub.any h H); have H2 := Has.lft (y := k) (ps := ([] : List Nat)) (j := o - 1) (y' := ⟨k.p, k.kv.take (o - 1), k.ka, k.kc, k.va, k.vc, k.ca, k.cc⟩) (z := 0) (l := blk g39 [.slice p1 (k.kv.length - o) c1, .slice p2 (k.kv.length - o) c2, .slice none 0 0] 98 :: row (.slice p1 (k.kv.length - o) c1) 9 1 (k.kv.length - o) ((k.kv.drop o).map fun q => kT q.1) :: row (.slice p2 (k.kv.length - o) c2) 2 1 (k.kv.length - o) ((k.kv.drop o).map fun q => iV q.2) :: row (.slice none 0 0) 95 1 0 ((([] : List Nat).drop o).map pV) :: trB g o r cnt :: ndB (⟨x.p, insL x.kv i (k.kv[o - 1]'(by omega)), some ⟨h5, 0, none⟩, c5, some ⟨h6, 0, none⟩, c6, some ⟨h7, 0, none⟩, c7⟩ : Nd) (ps.take (i + 1) ++ g39 :: ps.drop (i + 1)).length :: ndK (⟨x.p, insL x.kv i (k.kv[o - 1]'(by omega)), some ⟨h5, 0, none⟩, c5, some ⟨h6, 0, none⟩, c6, some ⟨h7, 0, none⟩, c7⟩ : Nd) :: ndV (⟨x.p, insL x.kv i (k.kv[o - 1]'(by omega)), some ⟨h5, 0, none⟩, c5, some ⟨h6, 0, none⟩, c6, some ⟨h7, 0, none⟩, c7⟩ : Nd) :: ndC (⟨x.p, insL x.kv i (k.kv[o - 1]'(by omega)), some ⟨h5, 0, none⟩, c5, some ⟨h6, 0, none⟩, c6, some ⟨h7, 0, none⟩, c7⟩ : Nd) (ps.take (i + 1) ++ g39 :: ps.drop (i + 1)) :: F) rfl (by omega) (by omega) (by omega) (by first | exact .inr (by omega) | exact .inl rfl) (Sub.any h H1); simp only [List.take_nil, List.length_nil] at H2; have H3 := Has.rgt (m := 0) (y := k) (ps := ([] : List Nat)) (o := o) (z' := ⟨g39, k.kv.drop o, p1, c1, p2, c2, none, 0⟩) (l := trB g o r cnt :: ndB (⟨k.p, k.kv.take (o - 1), k.ka, k.kc, k.va, k.vc, k.ca, k.cc⟩ : Nd) 0 :: ndK (⟨k.p, k.kv.take (o - 1), k.ka, k.kc, k.va, k.vc, k.ca, k.cc⟩ : Nd) :: ndV (⟨k.p, k.kv.take (o - 1), k.ka, k.kc, k.va, k.vc, k.ca, k.cc⟩ : Nd) :: ndC (⟨k.p, k.kv.take (o - 1), k.ka, k.kc, k.va, k.vc, k.ca, k.cc⟩ : Nd) ([] : List Nat) :: ndB (⟨x.p, insL x.kv i (k.kv[o - 1]'(by omega)), some ⟨h5, 0, none⟩, c5, some ⟨h6, 0, none⟩, c6, some ⟨h7, 0, none⟩, c7⟩ : Nd) (ps.take (i + 1) ++ g39 :: ps.drop (i + 1)).length :: ndK (⟨x.p, insL x.kv i (k.kv[o - 1]'(by omega)), some ⟨h5, 0, none⟩, c5, some ⟨h6, 0, none⟩, c6, some ⟨h7, 0, none⟩, c7⟩ : Nd) :: ndV (⟨x.p, insL x.kv i (k.kv[o - 1]'(by omega)), some ⟨h5, 0, none⟩, c5, some ⟨h6, 0, none⟩, c6, some ⟨h7, 0, none⟩, c7⟩ : Nd) :: ndC (⟨x.p, insL x.kv i (k.kv[o - 1]'(by omega)), some ⟨h5, 0, none⟩, c5, some ⟨h6, 0, none⟩, c6, some ⟨h7, 0, none⟩, c7⟩ : Nd) (ps.take (i + 1) ++ g39 :: ps.drop (i + 1)) :: F) rfl rfl (by simp) (Sub.any h H2); simp only [nodeL, List.take_nil, List.drop_nil, List.length_nil, List.map_nil, List.cons_append, List.nil_append] at H3 ⊢; exact Sub.any h H3⟩)
end Go.Proofs.Ytefognjcognknaa
