/- The texts SkA SfI SiA SfT TaA, one behind the other: what the law leans on. Conditions: as each theorem says. -/
import Derived.Test.YtiooeiapplnafaaGreatDoorZHfBase12
import Derived.Shelf.SlSortCmp.NoneTotal
import Derived.Shelf.SlLaysNS
import Derived.Test.YtiooeiapplnafaaGreatDoorProg
import Derived.Shelf.SortG.Plain
import Derived.Shelf.SortG.SortNone
import Derived.Shelf.SlLaysF0
set_option linter.unusedSimpArgs false
set_option linter.unusedVariables false
/- slices.SortFunc over rows of records of several cells: what the kit's contract says, in its words. Conditions: sizes; the comparison is a strict weak order and only reads. -/
namespace Go.Proofs.YtiooeiapplnafaaGreatDoor
open Go.RowKit Go.Shelf Go.Lib Go.Sort
section
variable {P : Program} {B : Base} {α : Type} [Inhabited α]
theorem put_takeK (d : Array Value) (cur : Array Value) (h : d.size ≤ cur.size) : (putCells id 0 d cur).toList.take d.size = d.toList := by
  apply List.ext_getElem
  · simp [putCells]; omega
  · intro i h1 h2
    have hi : i < d.size := by simpa using h2
    simp [putCells, hi, getElem!_pos]
theorem Own.sortedK {w : World} {g m cap k sz : Nat} {e : TypeId} {cs : List Value} {l : List Assn} (H : Own B w (row (.slice (some ⟨g, 0, none⟩) m cap) e sz m cs :: l)) (d' : Array Value) (hd : d'.size = m * sz) (os : Array Obj) : Own B (sortWorld id w g 0 k d' os) (row (.slice (some ⟨g, 0, none⟩) m cap) e sz m d'.toList :: l) := by
  obtain ⟨e1, e2⟩ := H.row_owns
  rcases e2 with ⟨e2, _⟩ | ⟨g', cap', cur, e2, _, e3, e4, e5, e6, e7⟩
  · cases e2
  · injection e2 with e2 _ e8
    injection e2 with e2
    injection e2 with e2
    subst e2; subst e8
    have hle : m * sz ≤ cap * sz := Nat.mul_le_mul_right _ e4
    refine H.row_kept (by simpa [Value.ownBlock] using sort_kept id w g k d' os) ⟨by simp [hd], .inr ⟨g, cap, _, rfl, Nat.zero_le _, sort_block id w g k d' os e3, e4, e5, by simp [putCells, e6], ?_⟩⟩ (fun g2 hg => .inl hg)
    rw [← hd]
    exact put_takeK d' cur (by omega)
theorem flatK_list (enc : α → List Value) (k : Nat) (hk : ∀ x, (enc x).length = k) (ds : List α) : (flatK enc k ds.toArray).toList = ds.flatMap enc := by
  apply List.ext_getElem?
  intro i
  have hl : (ds.flatMap enc).length = ds.length * k := by
    induction ds with
    | nil => simp
    | cons a l ih => simp [hk] at ih ⊢; rw [ih, Nat.add_mul, Nat.one_mul, Nat.add_comm]
  by_cases hi : i < ds.length * k
  · have h1 := get_flatK enc k ds.toArray i (by simpa using hi)
    have hk0 : 0 < k := by rcases Nat.eq_zero_or_pos k with e | e; (subst e; simp at hi); exact e
    have hq : i / k < ds.length := Nat.div_lt_of_lt_mul (by rw [Nat.mul_comm]; exact hi)
    have hr : i % k < k := Nat.mod_lt _ hk0
    have hv : (enc ds[i / k])[i % k]? = some ((enc ds[i / k])[i % k]'(by rw [hk]; exact hr)) := List.getElem?_eq_getElem _
    have h2 := flat_cell enc k ds (fun x _ => hk x) (i / k) (i % k) hq hv
    rw [Nat.zero_add, show i / k * k + i % k = i by rw [Nat.mul_comm]; exact Nat.div_add_mod i k] at h2
    rw [h2]
    have hs : i < (flatK enc k ds.toArray).size := by simpa using hi
    rw [Array.getElem?_toList, Array.getElem?_eq_getElem hs]
    rw [getElem!_pos (flatK enc k ds.toArray) i hs] at h1
    rw [h1]
    simp [hq, getElem!_pos, hk, hr]
  · have hs2 : (flatK enc k ds.toArray).toList.length = ds.length * k := by simp
    rw [List.getElem?_eq_none (by omega), List.getElem?_eq_none (by rw [hl]; omega)]
theorem Fn.sortK {ρ : Ren} (L : SlLaysF0.n6 P ρ) (k : Nat) (aE : ∀ w, (isAgg (ρ.t 24)).run P w = .ok true w) (zE : ∀ w, (Go.sizeOf (ρ.t 24)).run P w = .ok k w) (enc : α → List Value) (hk : ∀ x, (enc x).length = k) (h1 : ∀ x, ∀ v ∈ enc x, v.oneCell' = true) (cf : α → α → Int) (hO : SWO (ltOf cf)) (gc : Nat) (e : TypeId) (eg : ∀ args w, (callFunc gc args).run P w = .ok (.enter gc args) w) (v : Value) (m : Nat) (ds : List α) (hm : ds.length = m) (hb : m < 2 ^ 61) (S : List Assn)
    (hcmp : ∀ x y W, Own B W S → Calls P gc #[.agg (enc x).toArray, .agg (enc y).toArray] W fun e w' => e = .returned (.int .i64 (cf x y)) ∧ ∃ q os', w' = grow (W.drewN q) os') (f : Nat) (hf : ρ.f 6 = f) :
    Fn P B f #[v, .func (.func gc) #[] #[]] (row v e k m (ds.flatMap enc) :: S) (fun u l => u = .tuple #[] ∧ ∃ ds' : List α, ds'.Perm ds ∧ SortedIn (ltOf cf) 0 m ds'.toArray ∧ l = row v e k m (ds'.flatMap enc) :: S) := ⟨fun w F ho => by
  subst hf
  obtain ⟨p, cap, rfl, hp, hl⟩ := Own.row_slice ho
  have hfl : (ds.flatMap enc).length = m * k := hl
  rcases Nat.eq_zero_or_pos m with h0 | h0
  · subst h0
    obtain rfl : ds = [] := List.eq_nil_of_length_eq_zero hm
    refine (AnyF.slices_SortFunc_none { L with } p cap (.func (.func gc) #[] #[]) w).mono ?_
    rintro _ w' ⟨rfl, rfl⟩
    exact ⟨_, _, rfl, ⟨rfl, [], List.Perm.refl _, fun i h => by omega, rfl⟩, ho⟩
  · obtain ⟨g, rfl⟩ := hp h0
    have hsz : ds.toArray.size = m := by simpa using hm
    have hfk := flatK_list enc k hk ds
    obtain ⟨e1, e2⟩ := ho.row_owns
    rcases e2 with ⟨e2, _⟩ | ⟨g', cap', cur, e2, _, e3, e4, e5, e6, e7⟩
    · cases e2
    · injection e2 with e2 _ e8
      injection e2 with e2
      injection e2 with e2
      subst e2; subst e8
      have hle : m * k ≤ cap * k := Nat.mul_le_mul_right _ e4
      have hH : HoldsK enc k w g 0 ds.toArray := fun j hj => by
        have hj' : j < m * k := by simpa [hsz] using hj
        have hc : cur[j]? = some (flatK enc k ds.toArray)[j] := by
          rw [← Array.getElem?_toList]
          have : (cur.toList.take (m * k))[j]? = (ds.flatMap enc)[j]? := by rw [e7]
          rw [List.getElem?_take, if_pos (by omega)] at this
          rw [this, ← hfk, Array.getElem?_toList, Array.getElem?_eq_getElem hj]
        constructor
        · unfold World.cell?
          rw [e3]
          simp [hc]
          exact (getElem!_pos (flatK enc k ds.toArray) j hj).symm
        · unfold World.frozen?
          rw [e3]
          simp
      have hblk : g < w.heap.size := lt_of_block e3
      have hlays : CmpLays P gc #[] enc k cf g 0 ds.toArray.size w := fun q os dk hdk x y => by
        have h2 := ho.sortedK (k := q) (flatK enc k dk) (by simp [hdk, hsz]) os
        refine (hcmp x y _ ((h2.map fun _ k => k.tail).drop)).mono ?_
        rintro _ w' ⟨rfl, q, os', rfl⟩
        exact ⟨rfl, q, os', rfl⟩
      have h := AnyQ.slices_SortFunc L k aE zE enc hk h1 cf hO gc #[] g 0 cap ds.toArray w eg hlays hH hblk (by omega)
      rw [hsz] at h
      refine h.mono ?_
      rintro _ w' ⟨rfl, d', q, os, hp1, hp2, rfl⟩
      obtain ⟨q1, q2, q3⟩ := hp1
      have hd' : d'.size = m := by omega
      have hso := ho.sortedK (k := q) (flatK enc k d') (by simp [hd']) os
      refine ⟨_, _, rfl, ⟨rfl, d'.toList, ?_, by simpa using hp2, rfl⟩, ?_⟩
      · have e1 : d'.extract 0 m = d' := by rw [← hd']; simp
        have e2 : ds.toArray.extract 0 m = ds.toArray := by rw [← hsz]; simp
        rw [e1, e2] at q3
        simpa using q3
      · have := flatK_list enc k hk d'.toList
        rw [Array.toArray_toList] at this
        rw [← this]
        exact hso⟩
end
end Go.Proofs.YtiooeiapplnafaaGreatDoor

/-
  DERIVED: THE SHELF's CONTRACTS AT THIS DUMP, IN PLAIN WORDS (tools/lay-plain.mjs out of 'YtiooeiapplnafaaGreatDoorSfI.lean', which tools/lay-shelf.mjs wrote): THE SAME DECLARATIONS UNDER THE SAME NAMES: 'import', 'namespace', 'open', 'def', 'theorem' AND NOTHING ELSE: no command of the shelf's: FOR A HAND-IN. Each laying: the table of numbers ('.._ren') and one theorem, a field a fact of the dump's own or the kernel's comparison; each contract: ONE APPLICATION.
-/
namespace Go.Proofs
open Go.Shelf
def Tryz.sortI_ren : Go.Shelf.Ren := ⟨fun | 53 => 143 | 64 => 168 | 63 => 167 | 78 => 197 | 79 => 198 | 70 => 188 | 71 => 189 | 72 => 190 | 73 => 191 | 74 => 192 | 75 => 193 | 59 => 194 | 76 => 195 | 77 => 196 | 88 => 213 | 89 => 214 | 90 => 215 | 91 => 216 | 92 => 217 | 68 => 218 | 96 => 232 | n => n, fun | 22 => 67 | 23 => 2 | 3 => 3 | 51 => 306 | 0 => 0 | 67 => 86 | 69 => 193 | 4 => 4 | 61 => 343 | 60 => 342 | 44 => 348 | 5 => 5 | 9 => 9 | 75 => 363 | 79 => 367 | 83 => 377 | 84 => 260 | n => n, fun | n => n⟩
theorem Tryz.sortI : Go.Proofs.SlLaysN.n53 Tryz.prog Tryz.sortI_ren := {
  mixed := by kernel_rfl
  f53 := ⟨Tryz.f143.name, by decide, Tryz.func143.trans (congrArg some (by kernel_rfl))⟩
  f59 := ⟨Tryz.f194.name, by decide, Tryz.func194.trans (congrArg some (by kernel_rfl))⟩
  f63 := ⟨Tryz.f167.name, by decide, Tryz.func167.trans (congrArg some (by kernel_rfl))⟩
  f64 := Tryz.func168.trans (congrArg some (by kernel_rfl))
  f68 := ⟨Tryz.f218.name, by decide, Tryz.func218.trans (congrArg some (by kernel_rfl))⟩
  f70 := ⟨Tryz.f188.name, by decide, Tryz.func188.trans (congrArg some (by kernel_rfl))⟩
  f71 := ⟨Tryz.f189.name, by decide, Tryz.func189.trans (congrArg some (by kernel_rfl))⟩
  f72 := ⟨Tryz.f190.name, by decide, Tryz.func190.trans (congrArg some (by kernel_rfl))⟩
  f73 := ⟨Tryz.f191.name, by decide, Tryz.func191.trans (congrArg some (by kernel_rfl))⟩
  f74 := ⟨Tryz.f192.name, by decide, Tryz.func192.trans (congrArg some (by kernel_rfl))⟩
  f75 := ⟨Tryz.f193.name, by decide, Tryz.func193.trans (congrArg some (by kernel_rfl))⟩
  f76 := ⟨Tryz.f195.name, by decide, Tryz.func195.trans (congrArg some (by kernel_rfl))⟩
  f77 := ⟨Tryz.f196.name, by decide, Tryz.func196.trans (congrArg some (by kernel_rfl))⟩
  f78 := Tryz.func197.trans (congrArg some (by kernel_rfl))
  f79 := Tryz.func198.trans (congrArg some (by kernel_rfl))
  f88 := ⟨Tryz.f213.name, by decide, Tryz.func213.trans (congrArg some (by kernel_rfl))⟩
  f89 := Tryz.func214.trans (congrArg some (by kernel_rfl))
  f90 := Tryz.func215.trans (congrArg some (by kernel_rfl))
  f91 := ⟨Tryz.f216.name, by decide, Tryz.func216.trans (congrArg some (by kernel_rfl))⟩
  f92 := ⟨Tryz.f217.name, by decide, Tryz.func217.trans (congrArg some (by kernel_rfl))⟩
  f96 := ⟨Tryz.f232.name, by decide, Tryz.func232.trans (congrArg some (by kernel_rfl))⟩
  t0 := Tryz.underlying0
  a0 := Tryz.isAgg0
  z0 := Tryz.sizeOf0
  v0 := Tryz.zeroValue0
  t3 := Tryz.underlying3
  a3 := Tryz.isAgg3
  z3 := Tryz.sizeOf3
  v3 := Tryz.zeroValue3
  t4 := Tryz.underlying4
  a4 := Tryz.isAgg4
  z4 := Tryz.sizeOf4
  v4 := Tryz.zeroValue4
  t5 := Tryz.underlying5
  a5 := Tryz.isAgg5
  z5 := Tryz.sizeOf5
  v5 := Tryz.zeroValue5
  t9 := Tryz.underlying9
  a9 := Tryz.isAgg9
  z9 := Tryz.sizeOf9
  v9 := Tryz.zeroValue9
  t22 := Tryz.underlying67
  a22 := Tryz.isAgg67
  z22 := Tryz.sizeOf67
  v22 := Tryz.zeroValue67
  t23 := Tryz.underlying2
  a23 := Tryz.isAgg2
  z23 := Tryz.sizeOf2
  v23 := Tryz.zeroValue2
  t44 := Tryz.underlying348
  a44 := Tryz.isAgg348
  z44 := Tryz.sizeOf348
  v44 := Tryz.zeroValue348
  t51 := Tryz.underlying306
  a51 := Tryz.isAgg306
  z51 := Tryz.sizeOf306
  v51 := Tryz.zeroValue306
  t60 := Tryz.underlying342
  a60 := Tryz.isAgg342
  z60 := Tryz.sizeOf342
  v60 := Tryz.zeroValue342
  t61 := Tryz.underlying343
  a61 := Tryz.isAgg343
  z61 := Tryz.sizeOf343
  v61 := Tryz.zeroValue343
  t67 := Tryz.underlying86
  a67 := Tryz.isAgg86
  z67 := Tryz.sizeOf86
  v67 := Tryz.zeroValue86
  t69 := Tryz.underlying193
  a69 := Tryz.isAgg193
  z69 := Tryz.sizeOf193
  v69 := Tryz.zeroValue193
  t75 := Tryz.underlying363
  a75 := Tryz.isAgg363
  z75 := Tryz.sizeOf363
  v75 := Tryz.zeroValue363
  t79 := Tryz.underlying367
  a79 := Tryz.isAgg367
  z79 := Tryz.sizeOf367
  v79 := Tryz.zeroValue367
  t83 := Tryz.underlying377
  a83 := Tryz.isAgg377
  z83 := Tryz.sizeOf377
  v83 := Tryz.zeroValue377
  t84 := Tryz.underlying260
  a84 := Tryz.isAgg260
  z84 := Tryz.sizeOf260
  v84 := Tryz.zeroValue260 }
end Go.Proofs

/- slices.Sort of numbers over rows of the separation logic: what the kit's contract says, in its words. Conditions: sizes. -/
namespace Go.Proofs.YtiooeiapplnafaaGreatDoor
open Go.RowKit Go.Shelf Go.Lib Go.Sort

abbrev sortZ (zs : List Int) : List Int := zs.mergeSort fun x y => decide (x ≤ y)
theorem Fn.sortI {P : Program} {B : Base} {ρ : Ren} (L : SlLaysN.n53 P ρ) (v : Value) (e : TypeId) (m : Nat) (zs : List Int) (hm : zs.length = m) (hb : m < 2 ^ 61) (S : List Assn) (f : Nat) (hf : ρ.f 53 = f) :
    Fn P B f #[v] (row v e 1 m (zs.map (Value.int .i64)) :: S) (fun u l => u = .tuple #[] ∧ l = row v e 1 m ((sortZ zs).map (Value.int .i64)) :: S) := ⟨fun w F ho => by
  subst hf
  obtain ⟨p, cap, rfl, hp, hl⟩ := Own.row_slice ho
  rcases Nat.eq_zero_or_pos m with h0 | h0
  · subst h0
    obtain rfl : zs = [] := List.eq_nil_of_length_eq_zero hm
    refine (AnyG.slices_Sort_int_none L p cap w).mono ?_
    rintro _ w' ⟨rfl, rfl⟩
    exact ⟨_, _, rfl, ⟨rfl, by simp [sortZ]⟩, ho⟩
  · obtain ⟨g, rfl⟩ := hp h0
    have hsz : zs.toArray.size = m := by simpa using hm
    obtain ⟨e1, e2⟩ := ho.row_owns
    rcases e2 with ⟨e2, _⟩ | ⟨g', cap', cur, e2, _, e3, e4, e5, e6, e7⟩
    · cases e2
    · injection e2 with e2 _ e8
      injection e2 with e2
      injection e2 with e2
      subst e2
      have hH : Holds (Value.int .i64) w g 0 zs.toArray := fun j hj => by
        have hlj : j < zs.length := by simpa using hj
        have hc : cur[j]? = some (.int .i64 zs[j]) := by
          rw [← Array.getElem?_toList]
          have : (cur.toList.take (m * 1))[j]? = (zs.map (Value.int .i64))[j]? := by rw [e7]
          rw [List.getElem?_take, if_pos (by omega)] at this
          rw [this]
          simp [hlj]
        constructor
        · unfold World.cell?
          rw [e3]
          simp [hc, hlj, getElem!_pos]
        · unfold World.frozen?
          rw [e3]
          simp
      have hblk : g < w.heap.size := lt_of_block e3
      have h := AnyG.slices_Sort_int L g 0 cap zs w hH hblk (by omega)
      rw [hm] at h
      refine h.mono ?_
      rintro _ w' ⟨rfl, k, os, rfl⟩
      have hso := ho.sorted (k := k) (sortZ zs).toArray (by simp [sortZ, hm]) os
      exact ⟨_, _, rfl, ⟨rfl, rfl⟩, hso⟩⟩
theorem sortZ_perm {l m : List Int} (hp : l.Perm m) (hm : m.Pairwise (· ≤ ·)) : sortZ l = m := by
  have h1 : (sortZ l).Pairwise (fun a b => decide (a ≤ b) = true) := List.pairwise_mergeSort (by intro a b c h1 h2; simp at h1 h2 ⊢; omega) (by intro a b; simp; omega) l
  have h2 : (sortZ l).Perm m := (List.mergeSort_perm l _).trans hp
  have key : ∀ (a b : List Int), a.Perm b → a.Pairwise (· ≤ ·) → b.Pairwise (· ≤ ·) → a = b := by
    intro a
    induction a with
    | nil => intro b hp _ _; exact (List.nil_perm.1 hp).symm ▸ rfl
    | cons x a ih =>
      intro b hp ha hb
      cases b with
      | nil => exact absurd hp.symm (by simp)
      | cons y b =>
        have hxy : x = y := by
          have h1 : x ∈ y :: b := hp.subset (List.mem_cons_self ..)
          have h2 : y ∈ x :: a := hp.symm.subset (List.mem_cons_self ..)
          rcases List.mem_cons.1 h1 with h1 | h1
          · exact h1
          · rcases List.mem_cons.1 h2 with h2 | h2
            · exact h2.symm
            · have := (List.pairwise_cons.1 ha).1 y h2
              have := (List.pairwise_cons.1 hb).1 x h1
              omega
        subst hxy
        rw [ih b (hp.cons_inv) (List.pairwise_cons.1 ha).2 (List.pairwise_cons.1 hb).2]
  exact key _ _ h2 (h1.imp fun h => by simpa using h) hm
end Go.Proofs.YtiooeiapplnafaaGreatDoor

/-
  DERIVED: THE SHELF's CONTRACTS AT THIS DUMP, IN PLAIN WORDS (tools/lay-plain.mjs out of 'YtiooeiapplnafaaGreatDoorSfT.lean', which tools/lay-shelf.mjs wrote): THE SAME DECLARATIONS UNDER THE SAME NAMES: 'import', 'namespace', 'open', 'def', 'theorem' AND NOTHING ELSE: no command of the shelf's: FOR A HAND-IN. Each laying: the table of numbers ('.._ren') and one theorem, a field a fact of the dump's own or the kernel's comparison; each contract: ONE APPLICATION.
-/
namespace Go.Proofs
open Go.Shelf
def Tryz.sortT_ren : Go.Shelf.Ren := ⟨fun | 6 => 170 | 15 => 168 | 14 => 200 | 28 => 197 | 29 => 198 | 20 => 219 | 21 => 220 | 22 => 221 | 23 => 222 | 24 => 223 | 25 => 224 | 26 => 225 | 27 => 226 | 46 => 233 | 47 => 214 | 48 => 215 | 49 => 234 | 50 => 235 | 57 => 237 | n => n, fun | 22 => 93 | 24 => 283 | 25 => 291 | 3 => 3 | 39 => 306 | 0 => 0 | 53 => 86 | 55 => 193 | 4 => 4 | 46 => 343 | 45 => 342 | 50 => 348 | 5 => 5 | 9 => 9 | 66 => 363 | 70 => 367 | 76 => 377 | 77 => 260 | n => n, fun | n => n⟩
theorem Tryz.sortT : Go.Proofs.SlLaysF0.n6 Tryz.prog Tryz.sortT_ren := {
  mixed := by kernel_rfl
  f6 := ⟨Tryz.f170.name, by decide, Tryz.func170.trans (congrArg some (by kernel_rfl))⟩
  f14 := ⟨Tryz.f200.name, by decide, Tryz.func200.trans (congrArg some (by kernel_rfl))⟩
  f15 := Tryz.func168.trans (congrArg some (by kernel_rfl))
  f20 := ⟨Tryz.f219.name, by decide, Tryz.func219.trans (congrArg some (by kernel_rfl))⟩
  f21 := ⟨Tryz.f220.name, by decide, Tryz.func220.trans (congrArg some (by kernel_rfl))⟩
  f22 := ⟨Tryz.f221.name, by decide, Tryz.func221.trans (congrArg some (by kernel_rfl))⟩
  f23 := ⟨Tryz.f222.name, by decide, Tryz.func222.trans (congrArg some (by kernel_rfl))⟩
  f24 := ⟨Tryz.f223.name, by decide, Tryz.func223.trans (congrArg some (by kernel_rfl))⟩
  f25 := ⟨Tryz.f224.name, by decide, Tryz.func224.trans (congrArg some (by kernel_rfl))⟩
  f26 := ⟨Tryz.f225.name, by decide, Tryz.func225.trans (congrArg some (by kernel_rfl))⟩
  f27 := ⟨Tryz.f226.name, by decide, Tryz.func226.trans (congrArg some (by kernel_rfl))⟩
  f28 := Tryz.func197.trans (congrArg some (by kernel_rfl))
  f29 := Tryz.func198.trans (congrArg some (by kernel_rfl))
  f46 := ⟨Tryz.f233.name, by decide, Tryz.func233.trans (congrArg some (by kernel_rfl))⟩
  f47 := Tryz.func214.trans (congrArg some (by kernel_rfl))
  f48 := Tryz.func215.trans (congrArg some (by kernel_rfl))
  f49 := ⟨Tryz.f234.name, by decide, Tryz.func234.trans (congrArg some (by kernel_rfl))⟩
  f50 := ⟨Tryz.f235.name, by decide, Tryz.func235.trans (congrArg some (by kernel_rfl))⟩
  f57 := ⟨Tryz.f237.name, by decide, Tryz.func237.trans (congrArg some (by kernel_rfl))⟩
  t0 := Tryz.underlying0
  a0 := Tryz.isAgg0
  z0 := Tryz.sizeOf0
  v0 := Tryz.zeroValue0
  t3 := Tryz.underlying3
  a3 := Tryz.isAgg3
  z3 := Tryz.sizeOf3
  v3 := Tryz.zeroValue3
  t4 := Tryz.underlying4
  a4 := Tryz.isAgg4
  z4 := Tryz.sizeOf4
  v4 := Tryz.zeroValue4
  t5 := Tryz.underlying5
  a5 := Tryz.isAgg5
  z5 := Tryz.sizeOf5
  v5 := Tryz.zeroValue5
  t9 := Tryz.underlying9
  a9 := Tryz.isAgg9
  z9 := Tryz.sizeOf9
  v9 := Tryz.zeroValue9
  t22 := Tryz.underlying93
  a22 := Tryz.isAgg93
  z22 := Tryz.sizeOf93
  v22 := Tryz.zeroValue93
  t25 := Tryz.underlying291
  a25 := Tryz.isAgg291
  z25 := Tryz.sizeOf291
  v25 := Tryz.zeroValue291
  t39 := Tryz.underlying306
  a39 := Tryz.isAgg306
  z39 := Tryz.sizeOf306
  v39 := Tryz.zeroValue306
  t45 := Tryz.underlying342
  a45 := Tryz.isAgg342
  z45 := Tryz.sizeOf342
  v45 := Tryz.zeroValue342
  t46 := Tryz.underlying343
  a46 := Tryz.isAgg343
  z46 := Tryz.sizeOf343
  v46 := Tryz.zeroValue343
  t50 := Tryz.underlying348
  a50 := Tryz.isAgg348
  z50 := Tryz.sizeOf348
  v50 := Tryz.zeroValue348
  t53 := Tryz.underlying86
  a53 := Tryz.isAgg86
  z53 := Tryz.sizeOf86
  v53 := Tryz.zeroValue86
  t55 := Tryz.underlying193
  a55 := Tryz.isAgg193
  z55 := Tryz.sizeOf193
  v55 := Tryz.zeroValue193
  t66 := Tryz.underlying363
  a66 := Tryz.isAgg363
  z66 := Tryz.sizeOf363
  v66 := Tryz.zeroValue363
  t70 := Tryz.underlying367
  a70 := Tryz.isAgg367
  z70 := Tryz.sizeOf367
  v70 := Tryz.zeroValue367
  t76 := Tryz.underlying377
  a76 := Tryz.isAgg377
  z76 := Tryz.sizeOf377
  v76 := Tryz.zeroValue377
  t77 := Tryz.underlying260
  a77 := Tryz.isAgg260
  z77 := Tryz.sizeOf260
  v77 := Tryz.zeroValue260 }
end Go.Proofs

/- What a log's entries touch: pages compared; sorted by their numbers. Conditions: sizes. -/
namespace Go.Proofs.YtiooeiapplnafaaGreatDoor
open Go.RowKit Go.Shelf Go.Lib Go.Sort
structure Tch where
  page : Int
  first : Int
  last : Int
instance : Inhabited Tch := ⟨⟨0, 0, 0⟩⟩
abbrev tchC (x : Tch) : List Value := [.int .i64 x.page, .int .i64 x.first, .int .i64 x.last]
abbrev tchV (x : Tch) : Value := .agg #[.int .i64 x.page, .int .i64 x.first, .int .i64 x.last]
def cmpZ (x y : Int) : Int := if x < y then -1 else if y < x then 1 else 0
def cmpT (x y : Tch) : Int := cmpZ x.page y.page
theorem Ta.isNaN (x : Int) (W : World) : Calls Tryz.prog 172 #[.int .i64 x] W fun e w' => e = .returned (.bool false) ∧ w' = W := by
  go_enter Tryz.func172, Tryz.ntmps172
  go_wp2
  go_ret
  exact ⟨by simp, rfl⟩
theorem Ta.compare (x y : Int) (W : World) : Calls Tryz.prog 147 #[.int .i64 x, .int .i64 y] W fun e w' => e = .returned (.int .i64 (cmpZ x y)) ∧ w' = W := by
  go_enter Tryz.func147, Tryz.ntmps147
  go_wp2_with fail
  refine (Ta.isNaN x _).mono ?_
  rintro e w' ⟨rfl, rfl⟩
  go_wp2_with fail
  refine (Ta.isNaN y _).mono ?_
  rintro e w' ⟨rfl, rfl⟩
  by_cases h1 : x < y
  · go_wp2
    go_ret
    exact ⟨by simp [cmpZ, h1], rfl⟩
  · by_cases h2 : y < x
    · go_wp2
      go_ret
      exact ⟨by simp [cmpZ, h1, h2], rfl⟩
    · go_wp2
      go_ret
      exact ⟨by rw [show cmpZ x y = 0 by unfold cmpZ; rw [if_neg (by omega), if_neg (by omega)]]; rfl, rfl⟩
theorem Ta.cmp (x y : Tch) (W : World) : Calls Tryz.prog 146 #[tchV x, tchV y] W fun e w' => e = .returned (.int .i64 (cmpT x y)) ∧ ∃ q os', w' = grow (W.drewN q) os' := by
  go_enter Tryz.func146, Tryz.ntmps146
  go_wp2_with fail
  refine (Ta.compare x.page y.page _).mono ?_
  rintro e w' ⟨rfl, rfl⟩
  go_wp2
  go_ret
  exact ⟨by simp [cmpT], 0, _, by rw [alloc_eq_grow, alloc_eq_grow, grow_grow]; rfl⟩
theorem cmpT_lt {x y : Tch} : ltOf cmpT x y = decide (x.page < y.page) := by
  unfold ltOf cmpT cmpZ
  by_cases h1 : x.page < y.page
  · simp [h1]
  · by_cases h2 : y.page < x.page <;> simp [h1, h2]
theorem cmpT_swo : SWO (ltOf cmpT) := ⟨fun x => by simp [cmpT_lt], fun x y z => by simp only [cmpT_lt, decide_eq_true_eq]; omega, fun x y z => by simp only [cmpT_lt, decide_eq_false_iff_not]; omega⟩
abbrev sortT (l : List Tch) : List Tch := l.mergeSort fun x y => decide (x.page ≤ y.page)
theorem sorted_uniq : ∀ {a b : List Tch}, a.Perm b → (a.map (·.page)).Nodup → a.Pairwise (fun x y => x.page ≤ y.page) → b.Pairwise (fun x y => x.page ≤ y.page) → a = b
  | [], b, hp, _, _, _ => (List.nil_perm.1 hp).symm ▸ rfl
  | x :: a, [], hp, _, _, _ => absurd hp.symm (by simp)
  | x :: a, y :: b, hp, hn, ha, hb => by
    have hxy : x = y := by
      have h1 : x ∈ y :: b := hp.subset (List.mem_cons_self ..)
      have h2 : y ∈ x :: a := hp.symm.subset (List.mem_cons_self ..)
      rcases List.mem_cons.1 h1 with h1 | h1
      · exact h1
      · rcases List.mem_cons.1 h2 with h2 | h2
        · exact h2.symm
        · have h3 := (List.pairwise_cons.1 ha).1 y h2
          have h4 := (List.pairwise_cons.1 hb).1 x h1
          simp only [List.map_cons, List.nodup_cons] at hn
          exact absurd (List.mem_map_of_mem (f := (·.page)) h2) (by rw [show y.page = x.page by omega]; exact hn.1)
    subst hxy
    simp only [List.map_cons, List.nodup_cons] at hn
    rw [sorted_uniq hp.cons_inv hn.2 (List.pairwise_cons.1 ha).2 (List.pairwise_cons.1 hb).2]
theorem sortT_sorted (l : List Tch) : (sortT l).Pairwise (fun x y => x.page ≤ y.page) := by
  have := List.pairwise_mergeSort (le := fun x y : Tch => decide (x.page ≤ y.page)) (by intro a b c h1 h2; simp at h1 h2 ⊢; omega) (by intro a b; simp; omega) l
  exact this.imp fun h => by simpa using h
theorem sortT_of {l m : List Tch} (hp : m.Perm l) (hn : (l.map (·.page)).Nodup) (hs : SortedIn (ltOf cmpT) 0 m.length m.toArray) : m = sortT l := by
  refine sorted_uniq (hp.trans (List.mergeSort_perm l _).symm) ((hp.map _).nodup_iff.2 hn) ?_ (sortT_sorted l)
  rw [List.pairwise_iff_getElem]
  intro i j hi hj hij
  have := hs i j (Nat.zero_le _) hij hj
  rw [cmpT_lt] at this
  simp only [decide_eq_false_iff_not] at this
  rw [getElem!_pos m.toArray i (by simpa using hi), getElem!_pos m.toArray j (by simpa using hj)] at this
  simpa using this
end Go.Proofs.YtiooeiapplnafaaGreatDoor
