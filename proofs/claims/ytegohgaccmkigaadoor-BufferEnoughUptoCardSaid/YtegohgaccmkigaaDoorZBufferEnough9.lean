/- The texts SfA BfA BfB BfC BfD BgA, one behind the other: what the law leans on. Conditions: as each theorem says. -/
import Derived.Test.YtegohgaccmkigaaDoorZBufferEnough8
import Derived.Shelf.SlSortCmp.NoneTotal
/- slices.SortFunc over rows of the separation logic: what the kit's contract says, in its words. Conditions: sizes; the comparison is a strict weak order and only reads. -/
set_option linter.unusedSimpArgs false
set_option linter.unusedVariables false
namespace Go.Proofs.YtegohgaccmkigaaDoor
open Go.RowKit Go.Shelf Go.Lib Go.Sort

section
variable {P : Program} {B : Base} {α : Type} [Inhabited α]
theorem sort_block (enc : α → Value) (w : World) (g m : Nat) (d : Array α) (os : Array Obj) {cur : Array Value} {e : TypeId} {fr : Nat × Nat} (h : w.heap[g]? = some (.cells cur e fr)) : (sortWorld enc w g 0 m d os).heap[g]? = some (.cells (putCells enc 0 d cur) e fr) := by
  have hg : g < w.heap.size := lt_of_block h
  unfold sortWorld
  rw [heap_grow_old _ _ (by rw [size_putRow]; exact hg)]
  show (Array.modify w.heap g (onCells (putCells enc 0 d)))[g]? = _
  rw [Array.getElem?_modify, if_pos rfl, h]
  rfl
theorem sort_kept (enc : α → Value) (w : World) (g m : Nat) (d : Array α) (os : Array Obj) : Kept [g] w (sortWorld enc w g 0 m d os) := by
  refine ⟨rfl, rfl, rfl, ?_, fun k hk hn => ?_⟩
  · unfold sortWorld
    rw [size_grow, size_putRow]
    exact Nat.le_add_right _ _
  · unfold sortWorld
    rw [heap_grow_old _ _ (by rw [size_putRow]; exact hk)]
    show (Array.modify w.heap g (onCells (putCells enc 0 d)))[k]? = _
    rw [Array.getElem?_modify, if_neg (fun e => hn (by simp [e]))]
theorem put_take (enc : α → Value) (d : Array α) (cur : Array Value) (h : d.size ≤ cur.size) : (putCells enc 0 d cur).toList.take (d.size * 1) = d.toList.map enc := by
  apply List.ext_getElem
  · simp [putCells]; omega
  · intro i h1 h2
    have hi : i < d.size := by simpa using h2
    simp [putCells, hi, getElem!_pos]
theorem Own.sorted {w : World} {g m cap k : Nat} {e : TypeId} {ds : List α} {enc : α → Value} {l : List Assn} (H : Own B w (row (.slice (some ⟨g, 0, none⟩) m cap) e 1 m (ds.map enc) :: l)) (d' : Array α) (hd : d'.size = m) (os : Array Obj) : Own B (sortWorld enc w g 0 k d' os) (row (.slice (some ⟨g, 0, none⟩) m cap) e 1 m (d'.toList.map enc) :: l) := by
  obtain ⟨e1, e2⟩ := H.row_owns
  rcases e2 with ⟨e2, _⟩ | ⟨g', cap', cur, e2, _, e3, e4, e5, e6, e7⟩
  · cases e2
  · injection e2 with e2 _ e8
    injection e2 with e2
    injection e2 with e2
    subst e2; subst e8
    refine H.row_kept (by simpa [Value.ownBlock] using sort_kept enc w g k d' os) ⟨by simp [hd], .inr ⟨g, cap, _, rfl, Nat.zero_le _, sort_block enc w g k d' os e3, e4, e5, by simp [putCells, e6], ?_⟩⟩ (fun g2 hg => .inl hg)
    rw [← hd]
    exact put_take enc d' cur (by omega)
theorem Fn.sort {ρ : Ren} (L : SlLaysF.n6 P ρ) (enc : α → Value) (h1 : OneCell enc) (cf : α → α → Int) (hO : SWO (ltOf cf)) (gc : Nat) (e : TypeId) (eg : ∀ args w, (callFunc gc args).run P w = .ok (.enter gc args) w) (v : Value) (m : Nat) (ds : List α) (hm : ds.length = m) (hb : m < 2 ^ 61) (S : List Assn)
    (hcmp : ∀ x y W, Own B W S → Calls P gc #[enc x, enc y] W fun e w' => e = .returned (.int .i64 (cf x y)) ∧ ∃ q, w' = W.drewN q) (f : Nat) (hf : ρ.f 6 = f) :
    Fn P B f #[v, .func (.func gc) #[] #[]] (row v e 1 m (ds.map enc) :: S) (fun u l => u = .tuple #[] ∧ ∃ ds' : List α, ds'.Perm ds ∧ l = row v e 1 m (ds'.map enc) :: S) := ⟨fun w F ho => by
  subst hf
  obtain ⟨p, cap, rfl, hp, hl⟩ := Own.row_slice ho
  rcases Nat.eq_zero_or_pos m with h0 | h0
  · subst h0
    obtain rfl : ds = [] := List.eq_nil_of_length_eq_zero hm
    refine (AnyF.slices_SortFunc_none { L with } p cap (.func (.func gc) #[] #[]) w).mono ?_
    rintro _ w' ⟨rfl, rfl⟩
    exact ⟨_, _, rfl, ⟨rfl, [], List.Perm.refl _, rfl⟩, ho⟩
  · obtain ⟨g, rfl⟩ := hp h0
    have hsz : ds.toArray.size = m := by simpa using hm
    have hH : Holds enc w g 0 ds.toArray := fun j hj => by
      have hj' : j < m := by omega
      obtain ⟨e1, e2⟩ := ho.row_owns
      rcases e2 with ⟨e2, _⟩ | ⟨g', cap', cur, e2, _, e3, e4, e5, e6, e7⟩
      · cases e2
      · injection e2 with e2 _ e8
        injection e2 with e2
        injection e2 with e2
        subst e2
        have hlj : j < ds.length := by omega
        have hc : cur[j]? = some (enc ds[j]) := by
          rw [← Array.getElem?_toList]
          have : (cur.toList.take (m * 1))[j]? = (ds.map enc)[j]? := by rw [e7]
          rw [List.getElem?_take, if_pos (by omega)] at this
          rw [this]
          simp [hlj]
        constructor
        · unfold World.cell?
          rw [e3]
          simp [hc, hlj, getElem!_pos]
        · unfold World.frozen?
          rw [e3]
          simp
    have hblk : g < w.heap.size := by
      obtain ⟨e1, e2⟩ := ho.row_owns
      rcases e2 with ⟨e2, _⟩ | ⟨g', cap', cur, e2, _, e3, _⟩
      · cases e2
      · injection e2 with e2 _ e8
        injection e2 with e2
        injection e2 with e2
        subst e2
        exact lt_of_block e3
    have hlays : CmpLays1 P gc #[] enc cf g 0 ds.toArray.size w := fun k os dk hk x y => by
      have h2 := ho.sorted (k := k) dk (by omega) os
      refine (hcmp x y _ ((h2.map fun _ k => k.tail).drop)).mono ?_
      rintro _ w' ⟨rfl, q, rfl⟩
      exact ⟨rfl, q, #[], by rw [grow_empty]⟩
    have h := Any.slices_SortFunc L enc h1 cf hO gc #[] g 0 cap ds.toArray w eg hlays hH hblk (by omega)
    rw [hsz] at h
    refine h.mono ?_
    rintro _ w' ⟨rfl, d', k, os, hp1, _, rfl⟩
    obtain ⟨q1, q2, q3⟩ := hp1
    refine ⟨_, _, rfl, ⟨rfl, d'.toList, ?_, rfl⟩, ho.sorted (k := k) d' (by omega) os⟩
    have e1 : d'.extract 0 m = d' := by rw [← hsz, ← q1]; simp
    have e2 : ds.toArray.extract 0 m = ds.toArray := by rw [← hsz]; simp
    rw [e1, e2] at q3
    simpa using q3⟩
end
end Go.Proofs.YtegohgaccmkigaaDoor

/- The package buffer: what a pool is in memory; calls through an interface; find, pinned, Unpin, Bytes, Put, Frames, Pages. Conditions: sizes; that what is handed in can be read. -/
set_option linter.unusedSimpArgs false
set_option linter.unusedVariables false
namespace Go.Proofs.YtegohgaccmkigaaDoor
open Go.RowKit

section
variable {P : Program} {B : Base} {n : Nat} {S l r : List Assn} {f : Fr} {K : Value → List Assn → Prop} {d : Option Tmp} {ty : TypeId} {pos : String} {af : Array Edge} {gd : Option (Nat × Bool)}
theorem Qt.iface {t : TypeId} {x : Operand} {v : Value} (ht : (match P.underlying t with | some (.interface _) => false | some _ => true | none => false) = true) (hx : ev n f x = some v) : Qt P B n S ⟨d, .makeInterface t x, ty, pos, af, gd⟩ f (.iface t v) := ⟨fun w _ => by
  split at ht
  · cases ht
  · rename_i u hn hu
    have : (Instr.makeInterface t v).run P w = .ok (.iface t v) w := by
      unfold Instr.makeInterface
      rw [Sem.run_bind, run_underlying hu]
      simp only [Result.andThen_ok]
      rfl
    simp [execOp, evu_eq hx, this]
  · cases ht⟩
/-- A call through an interface whose value is known. -/
theorem Ef.callI {g : FuncId} {fn : Func} {t : TypeId} {x : Operand} {name : String} {args : Array Operand} {ats : Array TypeId} {v : Value} {vs : List Value} {pre F : List Assn} {R : Value → List Assn → Prop} (hc : Fn P B g (v :: vs).toArray pre R) (hf : P.funcs[g]? = some fn) (hn : (fn.name == "runtime.NumGoroutine") = false) (hb : fn.body.isNone = false)
    (hx : ev n f x = some (.iface t v)) (hm : ∀ w, (method (P.types.size + Made.depth) t v name).run P w = .ok (g, v) w) (ha : args.toList.map (ev n f) = vs.map some) [k : TakeL pre l F] (h : ∀ v l', R v l' → K v (l' ++ F)) : Ef P B n ⟨d, .call ⟨.invoke x name, args, ats⟩, ty, pos, af, gd⟩ f l K := ⟨fun w next Q ho hk => by
  have hav : args.map (evu n f) = vs.toArray := by
    have : args.toList.map (evu n f) = vs := by
      have e := congrArg (List.map (fun o : Option Value => o.getD undef)) ha
      have e2 : (fun x => evu n f x) = evu n f := rfl
      simp only [List.map_map, Function.comp_def, Option.getD_some, List.map_id'] at e
      exact e
    rw [← Array.toList_inj, Array.toList_map]
    simpa using this
  have h0 := hc.run w F ho.takeL
  unfold Oper.wp execOp
  rw [eval_act']
  have he : ((do let c ← resolve (evu n f) ⟨.invoke x name, args, ats⟩ ty; invoke c.target c.args) : Sem Next).run P w = .ok (.enter g (v :: vs).toArray) w := by
    have hn' : ¬ fn.name = "runtime.NumGoroutine" := by simpa using hn
    have hb' : ¬ fn.body = none := fun e => by rw [e] at hb; cases hb
    simp [resolve, hav, evu_eq hx, Go.invoke, callMethod, callFunc, hm, hf, hn', hb']
  rw [he]
  show Calls P g (v :: vs).toArray w _
  refine Calls.mono h0 ?_
  rintro e w' ⟨v, l', rfl, hR, ho'⟩
  exact hk v w' _ (h v l' hR) ho'⟩
end

structure Fm where
  page : Int
  mark : Int
  pins : Int
  dirty : Bool
  used : Bool
  p : Option Addr
  c : Nat
  b : List UInt8
abbrev fmC (x : Fm) : List Value := [.int .i64 x.page, .slice x.p x.b.length x.c, .int .i64 x.mark, .int .i64 x.pins, .bool x.dirty, .bool x.used]
/-- The frames; the pool. -/
abbrev fmR (gf n : Nat) (Fs : List Fm) : Assn := row (.slice (some ⟨gf, 0, none⟩) n n) 81 6 n (Fs.flatMap fmC)
abbrev poolB (g b gf n first count hand : Nat) (pl : Option Addr) (nl cl : Nat) : Assn := blk g [.pointer (some ⟨b, 0, none⟩), .int .i64 first, .int .i64 count, .slice (some ⟨gf, 0, none⟩) n n, .int .i64 hand, .slice pl nl cl] 37
theorem fm_at {Fs : List Fm} {i : Nat} {x : Fm} (h : Fs[i]? = some x) (j : Nat) (hj : j < 6) : (Fs.flatMap fmC)[0 + i * 6 + j]? = (fmC x)[j]? := by
  induction Fs generalizing i with
  | nil => simp at h
  | cons y R ih =>
    cases i with
    | zero =>
      simp at h; subst h
      rw [List.flatMap_cons, Nat.zero_mul, Nat.add_zero, Nat.zero_add, List.getElem?_append_left (by simpa using hj)]
    | succ i =>
      have := ih (i := i) (by simpa using h)
      rw [List.flatMap_cons, List.getElem?_append_right (by simp; omega), ← this]
      congr 1
      simp; omega
theorem fm_set {Fs : List Fm} {i : Nat} {x y : Fm} (h : Fs[i]? = some x) (j : Nat) (hj : j < 6) (v : Value) (hy : fmC y = (fmC x).set j v) : (Fs.flatMap fmC).set (0 + i * 6 + j) v = (Fs.set i y).flatMap fmC := by
  induction Fs generalizing i with
  | nil => simp at h
  | cons z R ih =>
    cases i with
    | zero =>
      simp at h; subst h
      rw [List.flatMap_cons, Nat.zero_mul, Nat.add_zero, Nat.zero_add, List.set_append_left _ _ (by simpa using hj), ← hy]
      rfl
    | succ i =>
      have := ih (i := i) (by simpa using h)
      rw [List.flatMap_cons, List.set_cons_succ, List.flatMap_cons, ← this, List.set_append_right _ _ (by simp; omega)]
      congr 2
      simp; omega
theorem fm_splice {Fs : List Fm} {i : Nat} (h : i < Fs.length) (y : Fm) : splice (Fs.flatMap fmC) (0 + i * 6) (fmC y) = (Fs.set i y).flatMap fmC := by
  unfold splice
  induction Fs generalizing i with
  | nil => simp at h
  | cons z R ih =>
    cases i with
    | zero => simp [List.flatMap_cons]
    | succ i =>
      have := ih (i := i) (by simpa using h)
      rw [List.set_cons_succ, List.flatMap_cons, List.flatMap_cons, ← this]
      rw [List.take_append, List.drop_append, List.take_of_length_le (l := fmC z) (by first | (simp; done) | (simp; omega)), List.drop_of_length_le (l := fmC z) (by first | (simp; done) | (simp; omega))]
      simp only [List.length_cons, List.length_nil, List.nil_append, List.append_assoc]
      congr 2
      · congr 1; omega
      · congr 2; omega
theorem fm_len (Fs : List Fm) : (Fs.flatMap fmC).length = Fs.length * 6 := flat_length fmC 6 _ (fun _ _ => rfl)

set_option maxHeartbeats 1000000 in
set_option maxRecDepth 100000 in
theorem Bf.find_some (B : Base) (g b gf n first count hand : Nat) (pl : Option Addr) (nl cl : Nat) (Fs : List Fm) (page : Int) (i : Nat) (x : Fm) (hn : Fs.length = n) (hn2 : n ≤ 4096) (hx : Fs[i]? = some x) (hp : x.page = page) (h0 : 0 ≤ page) (hfirst : ∀ (j : Nat), j < i → ∀ y : Fm, Fs[j]? = some y → y.page ≠ page) :
  Fn Tryd.prog B 34 #[.pointer (some ⟨g, 0, none⟩), .int .i64 page] [poolB g b gf n first count hand pl nl cl, fmR gf n Fs] (fun u l => u = .pointer (some ⟨gf, 0 + i * 6, none⟩) ∧ l = [poolB g b gf n first count hand pl nl cl, fmR gf n Fs]) := by
 have hi : i < n := by rw [← hn]; exact (List.getElem?_eq_some_iff.1 hx).1
 refine Fn.enter2 33 Tryd.func34 rfl rfl (Nat.le_of_ble_eq_true rfl) (fun F => ?_)
 try simp only [List.cons_append, List.nil_append]
 refine T.seq ?_
 refine T.region ?_
 refine LW.q rfl (Qt.assign rfl) ?_
 refine LW.done ?_
 refine T.seq ?_
 refine T.seq ?_
 refine T.region ?_
 refine LW.q rfl (Qt.move rfl) ?_
 refine LW.q rfl (Qt.nilCheck rfl) ?_
 refine LW.q rfl (Qt.fieldAddr (off := 3) (by kernel_rfl) rfl) ?_
 first | refine LW.q rfl (Qt.load (by kernel_rfl) rfl rfl) ?_ | refine LW.q rfl (Qt.load (by kernel_rfl) rfl (map_at _ _ _ (by omega))) ?_ | refine LW.q rfl (Qt.load (by kernel_rfl) rfl (flat_cell0 _ _ _ (by intros; rfl) _ (by omega) (by rfl))) ?_ | refine LW.q rfl (Qt.load (by kernel_rfl) rfl (flat_cell _ _ _ (by intros; rfl) _ _ (by omega) (by rfl))) ?_ | refine LW.q rfl (Qt.load (by kernel_rfl) rfl (bytes_at _ _ (by omega))) ?_
 refine LW.q rfl (Qt.len (e := 81) (sz := 6) (by kernel_rfl) rfl) ?_
 refine LW.q rfl (Qt.move rfl) ?_
 refine LW.done ?_
 refine T.block ?_
 refine T.loop (fun mz fz lz => ∃ (f0 : Fr) (k : Nat), (k ≤ i) ∧ mz = n - k ∧ fz = (upd (upd (upd (upd f0 0 (.pointer (some ⟨g, 0, none⟩))) 1 (.int .i64 page)) 11 (.int .i64 n)) 12 (.int .i64 k)) ∧ lz = poolB g b gf n first count hand pl nl cl :: fmR gf n Fs :: F) ?_ ?_
 · refine ⟨_, _, ⟨_, 0, Nat.zero_le _, rfl, (updS rfl (updS rfl (updS rfl (updS rfl rfl)))), rfl⟩, Sub.any⟩
 ·
  rintro mz fz lz ⟨f0, k, hk, hmz, rfl, rfl⟩
  subst mz
  try simp only [List.cons_append, List.nil_append]
  obtain ⟨y, hy⟩ : ∃ y, Fs[k]? = some y := ⟨_, List.getElem?_eq_getElem (by omega)⟩
  refine T.seq ?_
  refine T.region ?_
  refine LW.q rfl (Qt.lss rfl rfl) ?_
  refine LW.done ?_
  refine T.seq ?_
  first | refine T.condT rfl ?_ | refine T.condPT rfl (by omega) ?_ | refine T.condBT rfl (by omega) ?_
  by_cases e : k = i
  ·
   subst e
   obtain rfl : y = x := by rw [hx] at hy; exact (Option.some.inj hy).symm
   refine T.skip ?_
   refine T.seq ?_
   refine T.block ?_
   refine T.seq ?_
   refine T.region ?_
   refine LW.q rfl (Qt.move rfl) ?_
   refine LW.q rfl (Qt.assign rfl) ?_
   refine LW.done ?_
   refine T.seq ?_
   refine T.region ?_
   refine LW.q rfl (Qt.move rfl) ?_
   refine LW.q rfl (Qt.nilCheck rfl) ?_
   refine LW.q rfl (Qt.fieldAddr (off := 3) (by kernel_rfl) rfl) ?_
   first | refine LW.q rfl (Qt.load (by kernel_rfl) rfl rfl) ?_ | refine LW.q rfl (Qt.load (by kernel_rfl) rfl (map_at _ _ _ (by omega))) ?_ | refine LW.q rfl (Qt.load (by kernel_rfl) rfl (flat_cell0 _ _ _ (by intros; rfl) _ (by omega) (by rfl))) ?_ | refine LW.q rfl (Qt.load (by kernel_rfl) rfl (flat_cell _ _ _ (by intros; rfl) _ _ (by omega) (by rfl))) ?_ | refine LW.q rfl (Qt.load (by kernel_rfl) rfl (bytes_at _ _ (by omega))) ?_
   refine LW.q rfl (Qt.move rfl) ?_
   refine LW.q rfl (Qt.index _ (e := 81) (sz := 6) (by kernel_rfl) rfl rfl rfl (by omega)) ?_
   refine LW.q rfl (Qt.assign rfl) ?_
   refine LW.done ?_
   refine T.seq ?_
   refine T.region ?_
   refine LW.q rfl (Qt.move rfl) ?_
   refine LW.q rfl (Qt.nilCheck rfl) ?_
   refine LW.q rfl (Qt.fieldAddr0 (by kernel_rfl) rfl) ?_
   refine LW.q rfl (Qt.load (v := .int .i64 y.page) (by kernel_rfl) rfl (fm_at hy 0 (by omega))) ?_
   refine LW.q rfl (Qt.move rfl) ?_
   refine LW.q rfl (Qt.eql rfl rfl) ?_
   refine LW.q rfl (Qt.move rfl) ?_
   first | refine LW.gT (t := 27) rfl rfl ?_ | refine LW.gT (t := 27) rfl (decide_eq_true (hp)) ?_ | refine LW.gT (t := 27) rfl (hp) ?_
   refine LW.q rfl (Qt.move rfl) ?_
   refine LW.q rfl (Qt.geq rfl rfl) ?_
   refine LW.q rfl (Qt.pick rfl rfl) ?_
   refine LW.done ?_
   first | refine T.condT rfl ?_ | refine T.condPT rfl (by omega) ?_ | refine T.condBT rfl (by omega) ?_
   refine T.seq ?_
   refine T.region ?_
   refine LW.q rfl (Qt.move rfl) ?_
   refine LW.q rfl (Qt.assign rfl) ?_
   refine LW.done ?_
   refine T.ret ?_
   exact ⟨.inl rfl, _, _, res [_] rfl ⟨rvT rfl, trivial⟩, ⟨rfl, rfl⟩, Sub.any⟩
  ·
   refine T.skip ?_
   refine T.seq ?_
   refine T.block ?_
   refine T.seq ?_
   refine T.region ?_
   refine LW.q rfl (Qt.move rfl) ?_
   refine LW.q rfl (Qt.assign rfl) ?_
   refine LW.done ?_
   refine T.seq ?_
   refine T.region ?_
   refine LW.q rfl (Qt.move rfl) ?_
   refine LW.q rfl (Qt.nilCheck rfl) ?_
   refine LW.q rfl (Qt.fieldAddr (off := 3) (by kernel_rfl) rfl) ?_
   first | refine LW.q rfl (Qt.load (by kernel_rfl) rfl rfl) ?_ | refine LW.q rfl (Qt.load (by kernel_rfl) rfl (map_at _ _ _ (by omega))) ?_ | refine LW.q rfl (Qt.load (by kernel_rfl) rfl (flat_cell0 _ _ _ (by intros; rfl) _ (by omega) (by rfl))) ?_ | refine LW.q rfl (Qt.load (by kernel_rfl) rfl (flat_cell _ _ _ (by intros; rfl) _ _ (by omega) (by rfl))) ?_ | refine LW.q rfl (Qt.load (by kernel_rfl) rfl (bytes_at _ _ (by omega))) ?_
   refine LW.q rfl (Qt.move rfl) ?_
   refine LW.q rfl (Qt.index _ (e := 81) (sz := 6) (by kernel_rfl) rfl rfl rfl (by omega)) ?_
   refine LW.q rfl (Qt.assign rfl) ?_
   refine LW.done ?_
   refine T.seq ?_
   refine T.region ?_
   refine LW.q rfl (Qt.move rfl) ?_
   refine LW.q rfl (Qt.nilCheck rfl) ?_
   refine LW.q rfl (Qt.fieldAddr0 (by kernel_rfl) rfl) ?_
   refine LW.q rfl (Qt.load (v := .int .i64 y.page) (by kernel_rfl) rfl (fm_at hy 0 (by omega))) ?_
   refine LW.q rfl (Qt.move rfl) ?_
   refine LW.q rfl (Qt.eql rfl rfl) ?_
   refine LW.q rfl (Qt.move rfl) ?_
   first | refine LW.gF (t := 27) rfl rfl ?_ | refine LW.gF (t := 27) rfl (decide_eq_false ((hfirst k (by omega) y hy))) ?_ | refine LW.gF (t := 27) rfl ((hfirst k (by omega) y hy)) ?_
   refine LW.s rfl ?_
   refine LW.s rfl ?_
   refine LW.q rfl (Qt.pick rfl rfl) ?_
   refine LW.done ?_
   first | refine T.condF rfl ?_ | refine T.condPF rfl (by omega) ?_ | refine T.condBF rfl (by omega) ?_
   refine T.skip ?_
   refine T.region ?_
   refine LW.q rfl (Qt.add rfl rfl (wr64 (by omega) (by omega))) ?_
   refine LW.q rfl (Qt.move rfl) ?_
   refine LW.done ?_
   refine ⟨_, ?_, _, ⟨_, k + 1, by omega, rfl, (updS rfl (updS rfl (updS rfl (updS rfl rfl)))), rfl⟩, Sub.any⟩
   first | omega | (simp; omega)
set_option maxHeartbeats 1000000 in
set_option maxRecDepth 100000 in
theorem Bf.find_none (B : Base) (g b gf n first count hand : Nat) (pl : Option Addr) (nl cl : Nat) (Fs : List Fm) (page : Int) (hn : Fs.length = n) (hn2 : n ≤ 4096) (hno : ∀ (j : Nat) (y : Fm), Fs[j]? = some y → y.page = page → page < 0) :
  Fn Tryd.prog B 34 #[.pointer (some ⟨g, 0, none⟩), .int .i64 page] [poolB g b gf n first count hand pl nl cl, fmR gf n Fs] (fun u l => u = .pointer none ∧ l = [poolB g b gf n first count hand pl nl cl, fmR gf n Fs]) := by
 refine Fn.enter2 33 Tryd.func34 rfl rfl (Nat.le_of_ble_eq_true rfl) (fun F => ?_)
 try simp only [List.cons_append, List.nil_append]
 refine T.seq ?_
 refine T.region ?_
 refine LW.q rfl (Qt.assign rfl) ?_
 refine LW.done ?_
 refine T.seq ?_
 refine T.seq ?_
 refine T.region ?_
 refine LW.q rfl (Qt.move rfl) ?_
 refine LW.q rfl (Qt.nilCheck rfl) ?_
 refine LW.q rfl (Qt.fieldAddr (off := 3) (by kernel_rfl) rfl) ?_
 first | refine LW.q rfl (Qt.load (by kernel_rfl) rfl rfl) ?_ | refine LW.q rfl (Qt.load (by kernel_rfl) rfl (map_at _ _ _ (by omega))) ?_ | refine LW.q rfl (Qt.load (by kernel_rfl) rfl (flat_cell0 _ _ _ (by intros; rfl) _ (by omega) (by rfl))) ?_ | refine LW.q rfl (Qt.load (by kernel_rfl) rfl (flat_cell _ _ _ (by intros; rfl) _ _ (by omega) (by rfl))) ?_ | refine LW.q rfl (Qt.load (by kernel_rfl) rfl (bytes_at _ _ (by omega))) ?_
 refine LW.q rfl (Qt.len (e := 81) (sz := 6) (by kernel_rfl) rfl) ?_
 refine LW.q rfl (Qt.move rfl) ?_
 refine LW.done ?_
 refine T.block ?_
 refine T.loop (fun mz fz lz => ∃ (f0 : Fr) (k : Nat), (k ≤ n) ∧ mz = n - k ∧ fz = (upd (upd (upd (upd f0 0 (.pointer (some ⟨g, 0, none⟩))) 1 (.int .i64 page)) 11 (.int .i64 n)) 12 (.int .i64 k)) ∧ lz = poolB g b gf n first count hand pl nl cl :: fmR gf n Fs :: F) ?_ ?_
 · refine ⟨_, _, ⟨_, 0, Nat.zero_le _, rfl, (updS rfl (updS rfl (updS rfl (updS rfl rfl)))), rfl⟩, Sub.any⟩
 ·
  rintro mz fz lz ⟨f0, k, hk, hmz, rfl, rfl⟩
  subst mz
  try simp only [List.cons_append, List.nil_append]
  refine T.seq ?_
  refine T.region ?_
  refine LW.q rfl (Qt.lss rfl rfl) ?_
  refine LW.done ?_
  refine T.seq ?_
  refine T.condP rfl (fun hlt => ?_) (fun hlt => ?_)
  ·
   obtain ⟨y, hy⟩ : ∃ y, Fs[k]? = some y := ⟨_, List.getElem?_eq_getElem (by omega)⟩
   refine T.skip ?_
   refine T.seq ?_
   refine T.block ?_
   refine T.seq ?_
   refine T.region ?_
   refine LW.q rfl (Qt.move rfl) ?_
   refine LW.q rfl (Qt.assign rfl) ?_
   refine LW.done ?_
   refine T.seq ?_
   refine T.region ?_
   refine LW.q rfl (Qt.move rfl) ?_
   refine LW.q rfl (Qt.nilCheck rfl) ?_
   refine LW.q rfl (Qt.fieldAddr (off := 3) (by kernel_rfl) rfl) ?_
   first | refine LW.q rfl (Qt.load (by kernel_rfl) rfl rfl) ?_ | refine LW.q rfl (Qt.load (by kernel_rfl) rfl (map_at _ _ _ (by omega))) ?_ | refine LW.q rfl (Qt.load (by kernel_rfl) rfl (flat_cell0 _ _ _ (by intros; rfl) _ (by omega) (by rfl))) ?_ | refine LW.q rfl (Qt.load (by kernel_rfl) rfl (flat_cell _ _ _ (by intros; rfl) _ _ (by omega) (by rfl))) ?_ | refine LW.q rfl (Qt.load (by kernel_rfl) rfl (bytes_at _ _ (by omega))) ?_
   refine LW.q rfl (Qt.move rfl) ?_
   refine LW.q rfl (Qt.index _ (e := 81) (sz := 6) (by kernel_rfl) rfl rfl rfl (by omega)) ?_
   refine LW.q rfl (Qt.assign rfl) ?_
   refine LW.done ?_
   refine T.seq ?_
   refine T.region ?_
   refine LW.q rfl (Qt.move rfl) ?_
   refine LW.q rfl (Qt.nilCheck rfl) ?_
   refine LW.q rfl (Qt.fieldAddr0 (by kernel_rfl) rfl) ?_
   refine LW.q rfl (Qt.load (v := .int .i64 y.page) (by kernel_rfl) rfl (fm_at hy 0 (by omega))) ?_
   refine LW.q rfl (Qt.move rfl) ?_
   refine LW.q rfl (Qt.eql rfl rfl) ?_
   refine LW.q rfl (Qt.move rfl) ?_
   refine LW.split (t := 27) rfl (fun he => ?_) (fun he => ?_)
   ·
    try replace he := of_decide_eq_true he
    have hneg := hno k y hy he
    refine LW.q rfl (Qt.move rfl) ?_
    refine LW.q rfl (Qt.geq rfl rfl) ?_
    refine LW.q rfl (Qt.pick rfl rfl) ?_
    refine LW.done ?_
    first | refine T.condF rfl ?_ | refine T.condPF rfl (by omega) ?_ | refine T.condBF rfl (by omega) ?_
    refine T.skip ?_
    refine T.region ?_
    refine LW.q rfl (Qt.add rfl rfl (wr64 (by omega) (by omega))) ?_
    refine LW.q rfl (Qt.move rfl) ?_
    refine LW.done ?_
    refine ⟨_, ?_, _, ⟨_, k + 1, by omega, rfl, (updS rfl (updS rfl (updS rfl (updS rfl rfl)))), rfl⟩, Sub.any⟩
    first | omega | (simp; omega)
   ·
    try replace he := of_decide_eq_false he
    refine LW.s rfl ?_
    refine LW.s rfl ?_
    refine LW.q rfl (Qt.pick rfl rfl) ?_
    refine LW.done ?_
    first | refine T.condF rfl ?_ | refine T.condPF rfl (by omega) ?_ | refine T.condBF rfl (by omega) ?_
    refine T.skip ?_
    refine T.region ?_
    refine LW.q rfl (Qt.add rfl rfl (wr64 (by omega) (by omega))) ?_
    refine LW.q rfl (Qt.move rfl) ?_
    refine LW.done ?_
    refine ⟨_, ?_, _, ⟨_, k + 1, by omega, rfl, (updS rfl (updS rfl (updS rfl (updS rfl rfl)))), rfl⟩, Sub.any⟩
    first | omega | (simp; omega)
  ·
   refine T.exit ?_
   refine T.seq ?_
   refine T.region ?_
   refine LW.q rfl (Qt.assign rfl) ?_
   refine LW.done ?_
   refine T.ret ?_
   exact ⟨.inl rfl, _, _, res [_] rfl ⟨rvT rfl, trivial⟩, ⟨rfl, rfl⟩, Sub.any⟩
end Go.Proofs.YtegohgaccmkigaaDoor

/- The package buffer: pinned, Unpin, Bytes, Put, Frames, Pages. Conditions: sizes; that what is handed in can be read. -/
set_option linter.unusedSimpArgs false
set_option linter.unusedVariables false
namespace Go.Proofs.YtegohgaccmkigaaDoor
open Go.RowKit

theorem Bf.elemI : ElemOk Tryd.prog 38 3 1 8 := .mk' (.int .i64 0) Tryd.underlying38 (by kernel_rfl) rfl (by omega)
/-- Frame i is the first with this page. -/
structure Fd (Fs : List Fm) (page : Int) (i : Nat) (x : Fm) : Prop where
  at_ : Fs[i]? = some x
  pg : x.page = page
  pos : 0 ≤ page
  first : ∀ (j : Nat), j < i → ∀ y : Fm, Fs[j]? = some y → y.page ≠ page

set_option maxHeartbeats 1000000 in
set_option maxRecDepth 100000 in
theorem Bf.pinned_some (B : Base) (g b gf n first count hand : Nat) (pl : Option Addr) (nl cl : Nat) (Fs : List Fm) (page : Int) (i : Nat) (x : Fm) (hn : Fs.length = n) (hn2 : n ≤ 4096) (hx : Fd Fs page i x) (hpin : 0 < x.pins) :
    Fn Tryd.prog B 36 #[.pointer (some ⟨g, 0, none⟩), .int .i64 page] [poolB g b gf n first count hand pl nl cl, fmR gf n Fs] (fun u l => u = .pointer (some ⟨gf, 0 + i * 6, none⟩) ∧ l = [poolB g b gf n first count hand pl nl cl, fmR gf n Fs]) := by
  refine Fn.enter2 19 Tryd.func36 rfl rfl (Nat.le_of_ble_eq_true rfl) (fun F => ?_)
  try simp only [List.cons_append, List.nil_append]
  refine T.seq ?_
  refine T.region ?_
  refine LW.q rfl (Qt.assign rfl) ?_
  refine LW.done ?_
  refine T.seq ?_
  refine T.seq ?_
  refine T.region ?_
  refine LW.q rfl (Qt.move rfl) ?_
  refine LW.q rfl (Qt.move rfl) ?_
  refine LW.e rfl (Ef.call (Bf.find_some B g b gf n first count hand pl nl cl Fs page i x hn hn2 hx.at_ hx.pg hx.pos hx.first) Tryd.func34 rfl rfl rfl ?_)
  rintro _ _ ⟨rfl, rfl⟩
  try simp only [List.cons_append, List.nil_append]
  refine LW.q rfl (Qt.assign rfl) ?_
  refine LW.done ?_
  refine T.seq ?_
  refine T.region ?_
  refine LW.q rfl (Qt.move rfl) ?_
  first | refine LW.q rfl (Qt.neqNil (by kernel_rfl) rfl rfl) ?_ | refine LW.q rfl (Qt.neqNN (by kernel_rfl) rfl rfl) ?_
  refine LW.q rfl (Qt.move rfl) ?_
  first | refine LW.gT (t := 11) rfl rfl ?_ | refine LW.gT (t := 11) rfl (decide_eq_true (by omega)) ?_ | refine LW.gT (t := 11) rfl (by omega) ?_
  refine LW.q rfl (Qt.move rfl) ?_
  refine LW.q rfl (Qt.nilCheck rfl) ?_
  refine LW.q rfl (Qt.fieldAddr (off := 3) (by kernel_rfl) rfl) ?_
  refine LW.q rfl (Qt.load (v := .int .i64 x.pins) (by kernel_rfl) rfl (fm_at hx.at_ 3 (by omega))) ?_
  refine LW.q rfl (Qt.gtr rfl rfl) ?_
  refine LW.q rfl (Qt.pick rfl rfl) ?_
  refine LW.done ?_
  first | refine T.condT rfl ?_ | refine T.condPT rfl (by omega) ?_ | refine T.condBT rfl (by omega) ?_
  refine T.seq ?_
  refine T.region ?_
  refine LW.q rfl (Qt.move rfl) ?_
  refine LW.q rfl (Qt.assign rfl) ?_
  refine LW.done ?_
  refine T.ret ?_
  exact ⟨.inl rfl, _, _, res [_] rfl ⟨rvT rfl, trivial⟩, ⟨rfl, rfl⟩, Sub.any⟩
set_option maxHeartbeats 1000000 in
set_option maxRecDepth 100000 in
theorem Bf.unpin (B : Base) (g b gf n first count hand : Nat) (pl : Option Addr) (nl cl : Nat) (Fs : List Fm) (page : Int) (i : Nat) (x : Fm) (hn : Fs.length = n) (hn2 : n ≤ 4096) (hx : Fd Fs page i x) (hpin : 0 < x.pins) (hpin2 : x.pins < 2 ^ 62) :
    Fn Tryd.prog B 22 #[.pointer (some ⟨g, 0, none⟩), .int .i64 page] [poolB g b gf n first count hand pl nl cl, fmR gf n Fs] (fun u l => u = .int .i64 0 ∧ l = [poolB g b gf n first count hand pl nl cl, fmR gf n (Fs.set i { x with pins := x.pins - 1 })]) := by
  have hi : i < Fs.length := (List.getElem?_eq_some_iff.1 hx.at_).1
  have hfl := fm_len Fs
  refine Fn.enter2 18 Tryd.func22 rfl rfl (Nat.le_of_ble_eq_true rfl) (fun F => ?_)
  try simp only [List.cons_append, List.nil_append]
  refine T.seq ?_
  refine T.region ?_
  refine LW.q rfl (Qt.assign rfl) ?_
  refine LW.done ?_
  refine T.seq ?_
  refine T.region ?_
  refine LW.q rfl (Qt.move rfl) ?_
  refine LW.q rfl (Qt.move rfl) ?_
  refine LW.e rfl (Ef.call (Bf.pinned_some B g b gf n first count hand pl nl cl Fs page i x hn hn2 hx hpin) Tryd.func36 rfl rfl rfl ?_)
  rintro _ _ ⟨rfl, rfl⟩
  try simp only [List.cons_append, List.nil_append]
  refine LW.q rfl (Qt.assign rfl) ?_
  refine LW.done ?_
  refine T.seq ?_
  refine T.seq ?_
  refine T.region ?_
  refine LW.q rfl (Qt.move rfl) ?_
  first | refine LW.q rfl (Qt.eqlNil (by kernel_rfl) rfl rfl) ?_ | refine LW.q rfl (Qt.eqlNN (by kernel_rfl) rfl rfl) ?_
  refine LW.done ?_
  first | refine T.condF rfl ?_ | refine T.condPF rfl (by omega) ?_ | refine T.condBF rfl (by omega) ?_
  refine T.skip ?_
  refine T.seq ?_
  refine T.region ?_
  refine LW.q rfl (Qt.move rfl) ?_
  refine LW.q rfl (Qt.nilCheck rfl) ?_
  refine LW.q rfl (Qt.fieldAddr (off := 3) (by kernel_rfl) rfl) ?_
  refine LW.q rfl (Qt.load (v := .int .i64 x.pins) (by kernel_rfl) rfl (fm_at hx.at_ 3 (by omega))) ?_
  refine LW.q rfl (Qt.sub rfl rfl (wr64 (by omega) (by omega))) ?_
  refine LW.q rfl (Qt.nilCheck rfl) ?_
  refine LW.q rfl (Qt.fieldAddr (off := 3) (by kernel_rfl) rfl) ?_
  refine LW.e0 rfl (Ef.store1 (by kernel_rfl) rfl rfl rfl (by omega) ?_)
  rw [fm_set (y := { x with pins := x.pins - 1 }) hx.at_ 3 (by omega) _ rfl]
  refine LW.done ?_
  refine T.seq ?_
  refine T.region ?_
  refine LW.q rfl (Qt.assign rfl) ?_
  refine LW.done ?_
  refine T.ret ?_
  exact ⟨.inl rfl, _, _, res [_] rfl ⟨rvT rfl, trivial⟩, ⟨rfl, rfl⟩, Sub.any⟩
set_option maxHeartbeats 1000000 in
set_option maxRecDepth 100000 in
theorem Bf.bytes (B : Base) (S : List Assn) (g b gf n first count hand : Nat) (pl : Option Addr) (nl cl : Nat) (Fs : List Fm) (page : Int) (i : Nat) (x : Fm) (hn : Fs.length = n) (hn2 : n ≤ 4096) (hx : Fd Fs page i x) (hpin : 0 < x.pins) (hv : RdV B S (.slice x.p x.b.length x.c) (bytesV x.b)) (hb : x.b.length < 2 ^ 40) :
    Fn Tryd.prog B 17 #[.pointer (some ⟨g, 0, none⟩), .int .i64 page] (poolB g b gf n first count hand pl nl cl :: fmR gf n Fs :: S) (fun u l => ∃ p c, u = .tuple #[.slice p x.b.length c, .int .i64 0] ∧ (0 < x.b.length → ∃ g, p = some ⟨g, 0, none⟩) ∧ l = rB (.slice p x.b.length c) x.b.length x.b :: poolB g b gf n first count hand pl nl cl :: fmR gf n Fs :: S) := by
  refine Fn.enter2 17 Tryd.func17 rfl rfl (Nat.le_of_ble_eq_true rfl) (fun F => ?_)
  try simp only [List.cons_append, List.nil_append]
  refine T.seq ?_
  refine T.region ?_
  refine LW.q rfl (Qt.assign rfl) ?_
  refine LW.q rfl (Qt.assign rfl) ?_
  refine LW.done ?_
  refine T.seq ?_
  refine T.region ?_
  refine LW.q rfl (Qt.move rfl) ?_
  refine LW.q rfl (Qt.move rfl) ?_
  refine LW.e rfl (Ef.call (Bf.pinned_some B g b gf n first count hand pl nl cl Fs page i x hn hn2 hx hpin) Tryd.func36 rfl rfl rfl ?_)
  rintro _ _ ⟨rfl, rfl⟩
  try simp only [List.cons_append, List.nil_append]
  refine LW.q rfl (Qt.assign rfl) ?_
  refine LW.done ?_
  refine T.seq ?_
  refine T.seq ?_
  refine T.region ?_
  refine LW.q rfl (Qt.move rfl) ?_
  first | refine LW.q rfl (Qt.eqlNil (by kernel_rfl) rfl rfl) ?_ | refine LW.q rfl (Qt.eqlNN (by kernel_rfl) rfl rfl) ?_
  refine LW.done ?_
  first | refine T.condF rfl ?_ | refine T.condPF rfl (by omega) ?_ | refine T.condBF rfl (by omega) ?_
  refine T.skip ?_
  refine T.seq ?_
  refine T.region ?_
  refine LW.q rfl (Qt.move rfl) ?_
  refine LW.q rfl (Qt.nilCheck rfl) ?_
  refine LW.q rfl (Qt.fieldAddr (off := 1) (by kernel_rfl) rfl) ?_
  refine LW.q rfl (Qt.load (v := .slice x.p x.b.length x.c) (by kernel_rfl) rfl (fm_at hx.at_ 1 (by omega))) ?_
  refine LW.e rfl (Ef.call (Bc.clone B S (.slice x.p x.b.length x.c) x.b x.b.length rfl hv hb) Tryd.func37 rfl rfl rfl ?_)
  rintro _ _ ⟨p5, c5, rfl, hp5, rfl⟩
  try simp only [List.cons_append, List.nil_append]
  refine LW.q rfl (Qt.assign rfl) ?_
  refine LW.q rfl (Qt.assign rfl) ?_
  refine LW.done ?_
  refine T.ret ?_
  exact ⟨.inl rfl, _, _, res [_, _] rfl ⟨rvT rfl, rvT rfl, trivial⟩, ⟨_, _, rfl, hp5, rfl⟩, Sub.any⟩
set_option maxHeartbeats 1000000 in
set_option maxRecDepth 100000 in
theorem Bf.put_length (B : Base) (g b gf n first count hand : Nat) (pl : Option Addr) (nl cl : Nat) (Fs : List Fm) (page : Int) (i : Nat) (x : Fm) (hn : Fs.length = n) (hn2 : n ≤ 4096) (hx : Fd Fs page i x) (hpin : 0 < x.pins) (a : Option Addr) (m ca : Nat) (mark : Int) (hm : m ≠ 256) :
    Fn Tryd.prog B 16 #[.pointer (some ⟨g, 0, none⟩), .int .i64 page, .slice a m ca, .int .i64 mark] [poolB g b gf n first count hand pl nl cl, fmR gf n Fs] (fun u l => u = .int .i64 10 ∧ l = [poolB g b gf n first count hand pl nl cl, fmR gf n Fs]) := by
  refine Fn.enter4 37 Tryd.func16 rfl rfl (Nat.le_of_ble_eq_true rfl) (fun F => ?_)
  try simp only [List.cons_append, List.nil_append]
  refine T.seq ?_
  refine T.region ?_
  refine LW.q rfl (Qt.assign rfl) ?_
  refine LW.done ?_
  refine T.seq ?_
  refine T.region ?_
  refine LW.q rfl (Qt.move rfl) ?_
  refine LW.q rfl (Qt.move rfl) ?_
  refine LW.e rfl (Ef.call (Bf.pinned_some B g b gf n first count hand pl nl cl Fs page i x hn hn2 hx hpin) Tryd.func36 rfl rfl rfl ?_)
  rintro _ _ ⟨rfl, rfl⟩
  try simp only [List.cons_append, List.nil_append]
  refine LW.q rfl (Qt.assign rfl) ?_
  refine LW.done ?_
  refine T.seq ?_
  refine T.block ?_
  refine T.seq ?_
  refine T.region ?_
  refine LW.q rfl (Qt.move rfl) ?_
  first | refine LW.q rfl (Qt.eqlNil (by kernel_rfl) rfl rfl) ?_ | refine LW.q rfl (Qt.eqlNN (by kernel_rfl) rfl rfl) ?_
  refine LW.q rfl (Qt.assign rfl) ?_
  refine LW.done ?_
  first | refine T.condF rfl ?_ | refine T.condPF rfl (by omega) ?_ | refine T.condBF rfl (by omega) ?_
  refine T.seq ?_
  refine T.region ?_
  refine LW.q rfl (Qt.move rfl) ?_
  refine LW.q rfl (Qt.len (e := 5) (sz := 1) (by kernel_rfl) rfl) ?_
  refine LW.q rfl (Qt.neq rfl rfl) ?_
  refine LW.q rfl (Qt.assign rfl) ?_
  refine LW.done ?_
  first | refine T.condT rfl ?_ | refine T.condPT rfl (by omega) ?_ | refine T.condBT rfl (by omega) ?_
  refine T.seq ?_
  refine T.region ?_
  refine LW.q rfl (Qt.assign rfl) ?_
  refine LW.done ?_
  refine T.ret ?_
  exact ⟨.inl rfl, _, _, res [_] rfl ⟨rvT rfl, trivial⟩, ⟨rfl, rfl⟩, Sub.any⟩
set_option maxHeartbeats 2000000 in
set_option maxRecDepth 100000 in
theorem Bf.put (B : Base) (S : List Assn) (g b gf n first count hand : Nat) (pl : Option Addr) (nl cl : Nat) (Fs : List Fm) (page : Int) (i : Nat) (x : Fm) (hn : Fs.length = n) (hn2 : n ≤ 4096) (hx : Fd Fs page i x) (hpin : 0 < x.pins) (a : Option Addr) (ca : Nat) (d : List UInt8) (mark : Int) (hd : d.length = 256) (hv : RdV B S (.slice a 256 ca) (bytesV d)) :
    Fn Tryd.prog B 16 #[.pointer (some ⟨g, 0, none⟩), .int .i64 page, .slice a 256 ca, .int .i64 mark] (poolB g b gf n first count hand pl nl cl :: fmR gf n Fs :: S)
      (fun u l => ∃ p c, u = .int .i64 0 ∧ (∃ g, p = some ⟨g, 0, none⟩) ∧ l = rB (.slice p 256 c) 256 d :: poolB g b gf n first count hand pl nl cl :: fmR gf n (Fs.set i { x with mark := max x.mark mark, dirty := true, p := p, c := c, b := d }) :: S) := by
  have hi : i < Fs.length := (List.getElem?_eq_some_iff.1 hx.at_).1
  have hfl := fm_len Fs
  refine Fn.enter4 37 Tryd.func16 rfl rfl (Nat.le_of_ble_eq_true rfl) (fun F => ?_)
  try simp only [List.cons_append, List.nil_append]
  refine T.seq ?_
  refine T.region ?_
  refine LW.q rfl (Qt.assign rfl) ?_
  refine LW.done ?_
  refine T.seq ?_
  refine T.region ?_
  refine LW.q rfl (Qt.move rfl) ?_
  refine LW.q rfl (Qt.move rfl) ?_
  refine LW.e rfl (Ef.call (Bf.pinned_some B g b gf n first count hand pl nl cl Fs page i x hn hn2 hx hpin) Tryd.func36 rfl rfl rfl ?_)
  rintro _ _ ⟨rfl, rfl⟩
  try simp only [List.cons_append, List.nil_append]
  refine LW.q rfl (Qt.assign rfl) ?_
  refine LW.done ?_
  refine T.seq ?_
  refine T.block ?_
  refine T.seq ?_
  refine T.region ?_
  refine LW.q rfl (Qt.move rfl) ?_
  first | refine LW.q rfl (Qt.eqlNil (by kernel_rfl) rfl rfl) ?_ | refine LW.q rfl (Qt.eqlNN (by kernel_rfl) rfl rfl) ?_
  refine LW.q rfl (Qt.assign rfl) ?_
  refine LW.done ?_
  first | refine T.condF rfl ?_ | refine T.condPF rfl (by omega) ?_ | refine T.condBF rfl (by omega) ?_
  refine T.seq ?_
  refine T.region ?_
  refine LW.q rfl (Qt.move rfl) ?_
  refine LW.q rfl (Qt.len (e := 5) (sz := 1) (by kernel_rfl) rfl) ?_
  refine LW.q rfl (Qt.neq rfl rfl) ?_
  refine LW.q rfl (Qt.assign rfl) ?_
  refine LW.done ?_
  first | refine T.condF rfl ?_ | refine T.condPF rfl (by omega) ?_ | refine T.condBF rfl (by omega) ?_
  refine T.skip ?_
  refine T.seq ?_
  refine T.region ?_
  refine LW.q rfl (Qt.move rfl) ?_
  refine LW.q rfl (Qt.move rfl) ?_
  refine LW.q rfl (Qt.move rfl) ?_
  refine LW.e rfl (Ef.call (Bc.clone B S (.slice a 256 ca) d 256 hd hv (by omega)) Tryd.func37 rfl rfl rfl ?_)
  rintro _ _ ⟨p5, c5, rfl, hp5, rfl⟩
  try simp only [List.cons_append, List.nil_append]
  have hg5 := hp5 (by omega)
  refine LW.q rfl (Qt.nilCheck rfl) ?_
  refine LW.q rfl (Qt.fieldAddr (off := 1) (by kernel_rfl) rfl) ?_
  refine LW.e0 rfl (Ef.store1 (by kernel_rfl) rfl rfl rfl (by omega) ?_)
  rw [fm_set (y := { x with p := p5, c := c5, b := d }) hx.at_ 1 (by omega) _ (by simp only [fmC, List.set_cons_zero, List.set_cons_succ, hd])]
  have h2 : (Fs.set i { x with p := p5, c := c5, b := d })[i]? = some { x with p := p5, c := c5, b := d } := by rw [List.getElem?_set_self hi]
  have hfl2 := fm_len (Fs.set i { x with p := p5, c := c5, b := d })
  rw [List.length_set] at hfl2
  refine LW.q rfl (Qt.nilCheck rfl) ?_
  refine LW.q rfl (Qt.fieldAddr (off := 4) (by kernel_rfl) rfl) ?_
  refine LW.e0 rfl (Ef.store1 (by kernel_rfl) rfl rfl rfl (by omega) ?_)
  rw [fm_set (y := { x with p := p5, c := c5, b := d, dirty := true }) h2 4 (by omega) _ rfl, List.set_set]
  have h3 : (Fs.set i { x with p := p5, c := c5, b := d, dirty := true })[i]? = some { x with p := p5, c := c5, b := d, dirty := true } := by rw [List.getElem?_set_self hi]
  have hfl3 := fm_len (Fs.set i { x with p := p5, c := c5, b := d, dirty := true })
  rw [List.length_set] at hfl3
  refine LW.done ?_
  refine T.seq ?_
  refine T.region ?_
  refine LW.q rfl (Qt.move rfl) ?_
  refine LW.q rfl (Qt.move rfl) ?_
  refine LW.q rfl (Qt.nilCheck rfl) ?_
  refine LW.q rfl (Qt.fieldAddr (off := 2) (by kernel_rfl) rfl) ?_
  refine LW.q rfl (Qt.load (v := .int .i64 x.mark) (by kernel_rfl) rfl (fm_at h3 2 (by omega))) ?_
  refine LW.q rfl (Qt.move rfl) ?_
  refine LW.q rfl (Qt.max rfl rfl) ?_
  refine LW.q rfl (Qt.nilCheck rfl) ?_
  refine LW.q rfl (Qt.fieldAddr (off := 2) (by kernel_rfl) rfl) ?_
  refine LW.e0 rfl (Ef.store1 (by kernel_rfl) rfl rfl rfl (by omega) ?_)
  rw [fm_set (y := { x with p := p5, c := c5, b := d, dirty := true, mark := max x.mark mark }) h3 2 (by omega) _ rfl, List.set_set]
  refine LW.done ?_
  refine T.seq ?_
  refine T.region ?_
  refine LW.q rfl (Qt.assign rfl) ?_
  refine LW.done ?_
  refine T.ret ?_
  exact ⟨.inl rfl, _, _, res [_] rfl ⟨rvT rfl, trivial⟩, ⟨p5, c5, rfl, hg5, rfl⟩, Sub.any⟩
set_option maxHeartbeats 1000000 in
set_option maxRecDepth 100000 in
theorem Bf.frames (B : Base) (g b gf n first count hand : Nat) (pl : Option Addr) (nl cl : Nat) (Fs : List Fm) (hn : Fs.length = n) (hn2 : n ≤ 4096) :
  Fn Tryd.prog B 13 #[.pointer (some ⟨g, 0, none⟩)] [poolB g b gf n first count hand pl nl cl, fmR gf n Fs] (fun u l => ∃ p c, u = .slice p n c ∧ l = [row (.slice p n c) 3 1 n (Fs.map fun x => Value.int .i64 x.page), poolB g b gf n first count hand pl nl cl, fmR gf n Fs]) := by
 refine Fn.enter1 22 Tryd.func13 rfl rfl (Nat.le_of_ble_eq_true rfl) (fun F => ?_)
 try simp only [List.cons_append, List.nil_append]
 refine T.seq ?_
 refine T.region ?_
 refine LW.q rfl (Qt.assign rfl) ?_
 refine LW.done ?_
 refine T.seq ?_
 refine T.region ?_
 refine LW.q rfl (Qt.assign rfl) ?_
 refine LW.done ?_
 refine T.seq ?_
 refine T.seq ?_
 refine T.region ?_
 refine LW.q rfl (Qt.move rfl) ?_
 refine LW.q rfl (Qt.nilCheck rfl) ?_
 refine LW.q rfl (Qt.fieldAddr (off := 3) (by kernel_rfl) rfl) ?_
 first | refine LW.q rfl (Qt.load (by kernel_rfl) rfl rfl) ?_ | refine LW.q rfl (Qt.load (by kernel_rfl) rfl (map_at _ _ _ (by omega))) ?_ | refine LW.q rfl (Qt.load (by kernel_rfl) rfl (flat_cell0 _ _ _ (by intros; rfl) _ (by omega) (by rfl))) ?_ | refine LW.q rfl (Qt.load (by kernel_rfl) rfl (flat_cell _ _ _ (by intros; rfl) _ _ (by omega) (by rfl))) ?_ | refine LW.q rfl (Qt.load (by kernel_rfl) rfl (bytes_at _ _ (by omega))) ?_
 refine LW.q rfl (Qt.len (e := 81) (sz := 6) (by kernel_rfl) rfl) ?_
 refine LW.q rfl (Qt.move rfl) ?_
 refine LW.done ?_
 refine T.block ?_
 refine T.conv (l' := row (.slice none 0 0) 3 1 0 ((Fs.take 0).map fun x => Value.int .i64 x.page) :: poolB g b gf n first count hand pl nl cl :: fmR gf n Fs :: F) (fun w ho => ho.row_nil _ _) ?_
 refine T.loop (fun mz fz lz => ∃ (f0 : Fr) (k : Nat) (p : Option Addr) (c : Nat), (k ≤ n) ∧ mz = n - k ∧ fz = (upd (upd (upd (upd (upd f0 0 (.pointer (some ⟨g, 0, none⟩))) 3 (.slice p k c)) 9 (.slice (some ⟨gf, 0, none⟩) n n)) 11 (.int .i64 k)) 10 (.int .i64 n)) ∧ lz = row (.slice p k c) 3 1 k ((Fs.take k).map fun x => Value.int .i64 x.page) :: poolB g b gf n first count hand pl nl cl :: fmR gf n Fs :: F) ?_ ?_
 · refine ⟨_, _, ⟨_, 0, none, 0, Nat.zero_le _, rfl, (updS rfl (updS rfl (updS rfl (updS rfl (updS rfl rfl))))), rfl⟩, Sub.any⟩
 ·
  rintro mz fz lz ⟨f0, k, p, c, hk, hmz, rfl, rfl⟩
  subst mz
  try simp only [List.cons_append, List.nil_append]
  refine T.seq ?_
  refine T.region ?_
  refine LW.q rfl (Qt.lss rfl rfl) ?_
  refine LW.done ?_
  refine T.seq ?_
  refine T.condP rfl (fun hlt => ?_) (fun hlt => ?_)
  ·
   obtain ⟨y, hy⟩ : ∃ y, Fs[k]? = some y := ⟨_, List.getElem?_eq_getElem (by omega)⟩
   refine T.skip ?_
   refine T.seq ?_
   refine T.block ?_
   refine T.seq ?_
   refine T.region ?_
   refine LW.q rfl (Qt.index _ (e := 81) (sz := 6) (by kernel_rfl) rfl rfl rfl (by omega)) ?_
   refine LW.q rfl (Qt.loadAgg (fmC y) (by kernel_rfl) rfl (rdl_of fun j u hu => by have := fm_at hy j (by have := (List.getElem?_eq_some_iff.1 hu).1; simpa using this); rw [this]; exact hu)) ?_
   refine LW.e rfl (Ef.alloc [.int .i64 0, .slice none 0 0, .int .i64 0, .int .i64 0, .bool false, .bool false] (by unfold zeroB; kernel_rfl) ?_)
   intro g5
   refine LW.e0 rfl (Ef.store [_, _, _, _, _, _] (by kernel_rfl) rfl rfl rfl rfl (by simp) ?_)
   try simp only [splice, List.length_cons, List.length_nil, List.drop_succ_cons, List.cons_append, List.take_succ_cons, List.take_zero, List.drop_zero, List.nil_append, List.append_nil]
   refine LW.done ?_
   refine T.region ?_
   refine LW.q rfl (Qt.move rfl) ?_
   refine LW.q rfl (Qt.fieldAddr0 (by kernel_rfl) rfl) ?_
   first | refine LW.q rfl (Qt.load (by kernel_rfl) rfl rfl) ?_ | refine LW.q rfl (Qt.load (by kernel_rfl) rfl (map_at _ _ _ (by omega))) ?_ | refine LW.q rfl (Qt.load (by kernel_rfl) rfl (flat_cell0 _ _ _ (by intros; rfl) _ (by omega) (by rfl))) ?_ | refine LW.q rfl (Qt.load (by kernel_rfl) rfl (flat_cell _ _ _ (by intros; rfl) _ _ (by omega) (by rfl))) ?_ | refine LW.q rfl (Qt.load (by kernel_rfl) rfl (bytes_at _ _ (by omega))) ?_
   refine LW.e rfl (Ef.one [_] (e := 3) (sz := 1) (by kernel_rfl) ⟨.int .i64 0, by kernel_rfl, rfl⟩ rfl rfl rfl (by omega) (by omega) ?_)
   intro g18
   refine LW.e rfl (Ef.append Bf.elemI rfl rfl (SrcOf.blk (by kernel_rfl) rfl (by simp [Value.oneCell'])) (by unfold maxLen; omega) (by omega) ?_)
   rintro p2 c2 hp2
   try simp only [List.cons_append, List.nil_append]
   rw [show (Fs.take k).map (fun x => Value.int .i64 x.page) ++ [Value.int .i64 y.page] = (Fs.take (k + 1)).map (fun x => Value.int .i64 x.page) by rw [List.take_add_one, hy]; simp]
   refine LW.q rfl (Qt.assign rfl) ?_
   refine LW.done ?_
   refine T.region ?_
   refine LW.q rfl (Qt.add rfl rfl (wr64 (by omega) (by omega))) ?_
   refine LW.q rfl (Qt.move rfl) ?_
   refine LW.done ?_
   refine ⟨_, ?_, _, ⟨_, k + 1, p2, c2, by omega, rfl, (updS rfl (updS rfl (updS rfl (updS rfl (updS rfl rfl))))), rfl⟩, Sub.any⟩
   first | omega | (simp; omega)
  ·
   obtain rfl : k = n := by omega
   rw [← hn, List.take_length, hn]
   refine T.exit ?_
   refine T.seq ?_
   refine T.region ?_
   refine LW.q rfl (Qt.move rfl) ?_
   refine LW.q rfl (Qt.assign rfl) ?_
   refine LW.done ?_
   refine T.ret ?_
   exact ⟨.inl rfl, _, _, res [_] rfl ⟨rvT rfl, trivial⟩, ⟨_, _, rfl, rfl⟩, Sub.any⟩
theorem Bf.pages (B : Base) (g b gf n first count hand : Nat) (pl : Option Addr) (nl cl : Nat) :
    Fn Tryd.prog B 12 #[.pointer (some ⟨g, 0, none⟩)] [poolB g b gf n first count hand pl nl cl] (fun u l => u = .int .i64 count ∧ l = [poolB g b gf n first count hand pl nl cl]) := by
  refine Fn.enter1 7 Tryd.func12 rfl rfl (Nat.le_of_ble_eq_true rfl) (fun F => ?_)
  try simp only [List.cons_append, List.nil_append]
  refine T.seq ?_
  refine T.region ?_
  refine LW.q rfl (Qt.assign rfl) ?_
  refine LW.done ?_
  refine T.seq ?_
  refine T.region ?_
  refine LW.q rfl (Qt.move rfl) ?_
  refine LW.q rfl (Qt.nilCheck rfl) ?_
  refine LW.q rfl (Qt.fieldAddr (off := 2) (by kernel_rfl) rfl) ?_
  first | refine LW.q rfl (Qt.load (by kernel_rfl) rfl rfl) ?_ | refine LW.q rfl (Qt.load (by kernel_rfl) rfl (map_at _ _ _ (by omega))) ?_ | refine LW.q rfl (Qt.load (by kernel_rfl) rfl (flat_cell0 _ _ _ (by intros; rfl) _ (by omega) (by rfl))) ?_ | refine LW.q rfl (Qt.load (by kernel_rfl) rfl (flat_cell _ _ _ (by intros; rfl) _ _ (by omega) (by rfl))) ?_ | refine LW.q rfl (Qt.load (by kernel_rfl) rfl (bytes_at _ _ (by omega))) ?_
  refine LW.q rfl (Qt.assign rfl) ?_
  refine LW.done ?_
  refine T.ret ?_
  exact ⟨.inl rfl, _, _, res [_] rfl ⟨rvT rfl, trivial⟩, ⟨rfl, rfl⟩, Sub.any⟩
end Go.Proofs.YtegohgaccmkigaaDoor

/- The package buffer: New, force, victim. Conditions: sizes. -/
set_option linter.unusedSimpArgs false
set_option linter.unusedVariables false
namespace Go.Proofs.YtegohgaccmkigaaDoor
open Go.RowKit

theorem Bf.elemF : ElemOk Tryd.prog 35 79 1 16 := .mk' .nilIface Tryd.underlying35 (by kernel_rfl) rfl (by omega)
theorem Bf.elemFr : ElemOk Tryd.prog 34 81 6 56 := .mk' (.agg #[.int .i64 0, .slice none 0 0, .int .i64 0, .int .i64 0, .bool false, .bool false]) Tryd.underlying34 (by kernel_rfl) rfl (by omega)
abbrev fm0 : Fm := ⟨0, 0, 0, false, false, none, 0, []⟩
/-- A frame without a page. -/
abbrev fm1 : Fm := ⟨-1, 0, 0, false, false, none, 0, []⟩
abbrev lgR (pl : Option Addr) (nl cl : Nat) (ls : List Value) : Assn := row (.slice pl nl cl) 79 1 nl ls

set_option maxHeartbeats 1000000 in
set_option maxRecDepth 100000 in
theorem Bf.clone (B : Base) (S : List Assn) (v : Value) (ls : List Value) (m : Nat) (hm : ls.length = m) (hv : RdV B S v ls) (h1 : ∀ x ∈ ls, x.oneCell' = true) (hb : m < 2 ^ 20) : Fn Tryd.prog B 32 #[v] S (fun u l => ∃ p c, u = .slice p m c ∧ l = lgR p m c ls :: S) := by
 subst hm
 obtain ⟨a, c, rfl⟩ := hv.form (m := ls.length) rfl
 refine Fn.enter1 8 Tryd.func32 rfl rfl (Nat.le_of_ble_eq_true rfl) (fun F => ?_)
 try simp only [List.cons_append, List.nil_append]
 refine T.seq ?_
 refine T.region ?_
 refine LW.q rfl (Qt.assign rfl) ?_
 refine LW.done ?_
 refine T.seq ?_
 refine T.seq ?_
 refine T.region ?_
 refine LW.q rfl (Qt.move rfl) ?_
 refine LW.q rfl (Qt.eqlSl (by kernel_rfl) rfl rfl) ?_
 refine LW.done ?_
 refine T.cond rfl (fun h => ?_) (fun h => ?_)
 ·
  have hb0 : ls = [] := by rcases Nat.eq_zero_or_pos ls.length with h0 | h0; exact List.eq_nil_of_length_eq_zero h0; obtain ⟨g, o, rfl, _⟩ := hv.at h0; cases h
  subst hb0
  refine T.conv (l' := lgR none ([] : List Value).length 0 [] :: (S ++ F)) (fun w ho => ho.row_nil _ _) ?_
  refine T.seq ?_
  refine T.region ?_
  refine LW.q rfl (Qt.assign rfl) ?_
  refine LW.done ?_
  refine T.ret ?_
  exact ⟨.inl rfl, _, _, res [_] rfl ⟨rvT rfl, trivial⟩, ⟨none, 0, rfl, rfl⟩, Sub.any⟩
 ·
  refine T.skip ?_
  refine T.seq ?_
  refine T.region ?_
  refine LW.e rfl (Ef.empty Bf.elemF ?_)
  rintro g5
  try simp only [List.cons_append, List.nil_append]
  refine LW.q rfl (Qt.move rfl) ?_
  refine LW.e rfl (Ef.append Bf.elemF rfl rfl (SrcOf.rd (m := ls.length) (hv.mono (fun w ho => ho.tl.drop)) (by kernel_rfl) rfl h1) (by unfold maxLen; omega) (by omega) ?_)
  rintro p1 c1 hp1
  try simp only [List.cons_append, List.nil_append]
  simp only [Nat.zero_add, List.nil_append]
  refine LW.q rfl (Qt.assign rfl) ?_
  refine LW.done ?_
  refine T.ret ?_
  exact ⟨.inl rfl, _, _, res [_] rfl ⟨rvT rfl, trivial⟩, ⟨_, _, rfl, rfl⟩, Sub.any⟩

abbrev fmZ : Value := .agg #[.int .i64 0, .slice none 0 0, .int .i64 0, .int .i64 0, .bool false, .bool false]
theorem made_frames (n : Nat) : (madeCells fmZ.cells (n * 6)).toList = (List.replicate n fm0).flatMap fmC := by
  have hl : ((List.replicate n fm0).flatMap fmC).length = n * 6 := by rw [fm_len, List.length_replicate]
  have hz : fmZ.cells = (fmC fm0).toArray := rfl
  rw [hz]
  apply List.ext_getElem
  · rw [hl]; simp [madeCells]
  · intro i h1 h2
    have h2' := h2
    rw [hl] at h2'
    have h3 := fm_at (Fs := List.replicate n fm0) (i := i / 6) (x := fm0) (by rw [List.getElem?_replicate, if_pos (by omega)]) (i % 6) (Nat.mod_lt _ (by omega))
    rw [show 0 + i / 6 * 6 + i % 6 = i by omega, List.getElem?_eq_getElem h2] at h3
    have h6 : i % 6 < (fmC fm0).length := Nat.mod_lt _ (by show 0 < 6; omega)
    rw [List.getElem?_eq_getElem h6] at h3
    rw [Option.some.inj h3]
    simp [madeCells]
    rw [List.getElem?_eq_getElem h6]
    rfl
theorem fm_rep (k n : Nat) (h : k < n) : (List.replicate k fm1 ++ List.replicate (n - k) fm0).set k fm1 = List.replicate (k + 1) fm1 ++ List.replicate (n - (k + 1)) fm0 := by
  rw [List.set_append_right _ _ (by simp), List.length_replicate, Nat.sub_self, show n - k = (n - (k + 1)) + 1 by omega, List.replicate_succ, List.set_cons_zero, List.replicate_succ' (n := k), List.append_assoc]
  rfl

set_option maxHeartbeats 4000000 in
set_option maxRecDepth 100000 in
theorem Bf.new (B : Base) (S : List Assn) (b : Nat) (D : DD) (first count n : Nat) (i j k : Int) (hi : i = first) (hj : j = count) (hk : k = n) (lv : Value) (ls : List Value) (hs : D.secs.length ≤ 4096) (h1 : 1 ≤ count) (hD : first + count ≤ D.secs.length) (hn1 : 1 ≤ n) (hn2 : n ≤ 4096) (hv : RdV B S lv ls) (h1' : ∀ x ∈ ls, x.oneCell' = true) (hb : ls.length < 2 ^ 20) :
  Fn Tryd.prog B 10 #[.pointer (some ⟨b, 0, none⟩), .int .i64 i, .int .i64 j, .int .i64 k, lv] (dskA b D :: S) (fun u l => ∃ g gf pl cl, u = .tuple #[.pointer (some ⟨g, 0, none⟩), .int .i64 0] ∧ l = poolB g b gf n first count 0 pl ls.length cl :: fmR gf n (List.replicate n fm1) :: lgR pl ls.length cl ls :: dskA b D :: S) := by
 subst hi; subst hj; subst hk
 refine Fn.enter5 73 Tryd.func10 rfl rfl (Nat.le_of_ble_eq_true rfl) (fun F => ?_)
 try simp only [List.cons_append, List.nil_append]
 refine T.seq ?_
 refine T.region ?_
 refine LW.q rfl (Qt.assign rfl) ?_
 refine LW.q rfl (Qt.assign rfl) ?_
 refine LW.done ?_
 refine T.seq ?_
 refine T.seq ?_
 refine T.region ?_
 refine LW.q rfl (Qt.move rfl) ?_
 refine LW.q rfl (Qt.lss rfl rfl) ?_
 refine LW.q rfl (Qt.move rfl) ?_
 first | refine LW.gF (t := 16) rfl rfl ?_ | refine LW.gF (t := 16) rfl (decide_eq_false (by omega)) ?_ | refine LW.gF (t := 16) rfl (by omega) ?_
 refine LW.q rfl (Qt.move rfl) ?_
 refine LW.q rfl (Qt.lss rfl rfl) ?_
 refine LW.q rfl (Qt.pick rfl rfl) ?_
 refine LW.q rfl (Qt.move rfl) ?_
 first | refine LW.gF (t := 20) rfl rfl ?_ | refine LW.gF (t := 20) rfl (decide_eq_false (by omega)) ?_ | refine LW.gF (t := 20) rfl (by omega) ?_
 refine LW.q rfl (Qt.move rfl) ?_
 refine LW.q rfl (Qt.move rfl) ?_
 refine LW.q rfl (Qt.nilCheck rfl) ?_
 refine LW.q rfl (Qt.fieldAddr0 (by kernel_rfl) rfl) ?_
 refine LW.e rfl (Ef.call (Dk.sectorsF B b D) Tryd.func31 rfl rfl rfl ?_)
 rintro _ _ ⟨rfl, rfl⟩
 try simp only [List.cons_append, List.nil_append]
 refine LW.q rfl (Qt.gtr rfl rfl) ?_
 refine LW.q rfl (Qt.pick rfl rfl) ?_
 refine LW.q rfl (Qt.move rfl) ?_
 first | refine LW.gF (t := 28) rfl rfl ?_ | refine LW.gF (t := 28) rfl (decide_eq_false (by omega)) ?_ | refine LW.gF (t := 28) rfl (by omega) ?_
 refine LW.q rfl (Qt.move rfl) ?_
 refine LW.q rfl (Qt.move rfl) ?_
 refine LW.q rfl (Qt.nilCheck rfl) ?_
 refine LW.q rfl (Qt.fieldAddr0 (by kernel_rfl) rfl) ?_
 refine LW.e rfl (Ef.call (Dk.sectorsF B b D) Tryd.func31 rfl rfl rfl ?_)
 rintro _ _ ⟨rfl, rfl⟩
 try simp only [List.cons_append, List.nil_append]
 refine LW.q rfl (Qt.move rfl) ?_
 refine LW.q rfl (Qt.sub rfl rfl (wr64 (by omega) (by omega))) ?_
 refine LW.q rfl (Qt.gtr rfl rfl) ?_
 refine LW.q rfl (Qt.pick rfl rfl) ?_
 refine LW.q rfl (Qt.move rfl) ?_
 first | refine LW.gF (t := 38) rfl rfl ?_ | refine LW.gF (t := 38) rfl (decide_eq_false (by omega)) ?_ | refine LW.gF (t := 38) rfl (by omega) ?_
 refine LW.q rfl (Qt.move rfl) ?_
 refine LW.q rfl (Qt.lss rfl rfl) ?_
 refine LW.q rfl (Qt.pick rfl rfl) ?_
 refine LW.q rfl (Qt.move rfl) ?_
 first | refine LW.gF (t := 42) rfl rfl ?_ | refine LW.gF (t := 42) rfl (decide_eq_false (by omega)) ?_ | refine LW.gF (t := 42) rfl (by omega) ?_
 refine LW.q rfl (Qt.move rfl) ?_
 refine LW.q rfl (Qt.gtr rfl rfl) ?_
 refine LW.q rfl (Qt.pick rfl rfl) ?_
 refine LW.done ?_
 first | refine T.condF rfl ?_ | refine T.condPF rfl (by omega) ?_ | refine T.condBF rfl (by omega) ?_
 refine T.skip ?_
 refine T.seq ?_
 refine T.drawBl 10 none (by kernel_rfl) (Nat.le_of_ble_eq_true rfl) (by kernel_rfl) ?_
 refine RW.q 0 rfl rfl (by kernel_rfl) Sub.any (Qt.move rfl) ?_
 refine RW.q 1 rfl rfl (by kernel_rfl) Sub.any (Qt.move rfl) ?_
 refine RW.q 2 rfl rfl (by kernel_rfl) Sub.any (Qt.move rfl) ?_
 refine RW.q 3 rfl rfl (by kernel_rfl) Sub.any (Qt.build [(0, 1), (1, 1), (2, 1)] [.pointer none, .int .i64 0, .int .i64 0] [_, _, _] [(0, _), (1, _), (2, _)] (by kernel_rfl) (by unfold zeroB; kernel_rfl) rfl rfl) ?_
 refine RW.q 4 rfl rfl (by kernel_rfl) Sub.any (Qt.move rfl) ?_
 refine RW.q 6 rfl rfl (by kernel_rfl) Sub.any (Qt.move rfl) ?_
 refine RW.all [5, 7] (by kernel_rfl) (List.forall_mem_cons.2 ⟨?_, List.forall_mem_cons.2 ⟨?_, List.forall_mem_nil _⟩⟩)
 ·
  refine RO.eS rfl rfl (Ef.make n fmZ 56 Bf.elemFr (by kernel_rfl) rfl rfl rfl rfl (by omega) (by unfold maxLen; omega) ?_)
  rintro g51
  try simp only [List.cons_append, List.nil_append]
  rw [made_frames, show List.replicate n fm0 = List.replicate 0 fm1 ++ List.replicate (n - 0) fm0 by simp]
  refine ⟨Sub.any, ?_⟩
  refine RW.one 7 (by kernel_rfl) ?_
  refine RO.eS rfl rfl (Ef.call (Bf.clone B S lv ls ls.length rfl hv h1' hb) Tryd.func32 rfl rfl rfl ?_)
  rintro _ _ ⟨p53, c53, rfl, rfl⟩
  try simp only [List.cons_append, List.nil_append]
  refine ⟨Sub.any, ?_⟩
  refine RW.q 8 rfl rfl (by kernel_rfl) Sub.any (Qt.build [(0, 3), (3, 1), (4, 1), (5, 1)] [.pointer none, .int .i64 0, .int .i64 0, .slice none 0 0, .int .i64 0, .slice none 0 0] [_, _, _, _, _, _] [(0, _), (1, _), (3, _)] (by kernel_rfl) (by unfold zeroB; kernel_rfl) rfl rfl) ?_
  refine RW.one 9 (by kernel_rfl) ?_
  refine RO.eS rfl rfl (Ef.box [_, _, _, _, _, _] rfl rfl ?_)
  intro g55
  refine ⟨Sub.any, ?_⟩
  refine RW.done (by rfl) ?_
  simp only [List.drop_succ_cons, List.drop_zero, List.drop_nil]
  refine LW.q rfl (Qt.assign rfl) ?_
  refine LW.done ?_
  refine T.seq ?_
  refine T.seq ?_
  refine T.region ?_
  refine LW.q rfl (Qt.move rfl) ?_
  refine LW.q rfl (Qt.nilCheck rfl) ?_
  refine LW.q rfl (Qt.fieldAddr (off := 3) (by kernel_rfl) rfl) ?_
  first | refine LW.q rfl (Qt.load (by kernel_rfl) rfl rfl) ?_ | refine LW.q rfl (Qt.load (by kernel_rfl) rfl (map_at _ _ _ (by omega))) ?_ | refine LW.q rfl (Qt.load (by kernel_rfl) rfl (flat_cell0 _ _ _ (by intros; rfl) _ (by omega) (by rfl))) ?_ | refine LW.q rfl (Qt.load (by kernel_rfl) rfl (flat_cell _ _ _ (by intros; rfl) _ _ (by omega) (by rfl))) ?_ | refine LW.q rfl (Qt.load (by kernel_rfl) rfl (bytes_at _ _ (by omega))) ?_
  refine LW.q rfl (Qt.len (e := 81) (sz := 6) (by kernel_rfl) rfl) ?_
  refine LW.q rfl (Qt.move rfl) ?_
  refine LW.done ?_
  refine T.block ?_
  refine T.loop (fun mz fz lz => ∃ (f0 : Fr) (m : Nat), (m ≤ n) ∧ mz = n - m ∧ fz = (upd (upd (upd f0 12 (.pointer (some ⟨g55, 0, none⟩))) 60 (.int .i64 n)) 61 (.int .i64 m)) ∧ lz = poolB g55 b g51 n first count 0 p53 ls.length c53 :: fmR g51 n (List.replicate m fm1 ++ List.replicate (n - m) fm0) :: lgR p53 ls.length c53 ls :: dskA b D :: (S ++ F)) ?_ ?_
  · refine ⟨_, _, ⟨_, 0, Nat.zero_le _, rfl, (updS rfl (updS rfl (updS rfl rfl))), rfl⟩, Sub.any⟩
  ·
   rintro mz fz lz ⟨f0, m, hm, hmz, rfl, rfl⟩
   subst mz
   try simp only [List.cons_append, List.nil_append]
   refine T.seq ?_
   refine T.region ?_
   refine LW.q rfl (Qt.lss rfl rfl) ?_
   refine LW.done ?_
   refine T.seq ?_
   refine T.condP rfl (fun hlt => ?_) (fun hlt => ?_)
   ·
    have hfl := fm_len (List.replicate m fm1 ++ List.replicate (n - m) fm0)
    rw [List.length_append, List.length_replicate, List.length_replicate] at hfl
    have hat : (List.replicate m fm1 ++ List.replicate (n - m) fm0)[m]? = some fm0 := by rw [List.getElem?_append_right (by simp), List.length_replicate, Nat.sub_self, List.getElem?_replicate, if_pos (by omega)]
    refine T.skip ?_
    refine T.seq ?_
    refine T.block ?_
    refine T.seq ?_
    refine T.region ?_
    refine LW.q rfl (Qt.move rfl) ?_
    refine LW.q rfl (Qt.assign rfl) ?_
    refine LW.done ?_
    refine T.region ?_
    refine LW.q rfl (Qt.move rfl) ?_
    refine LW.q rfl (Qt.nilCheck rfl) ?_
    refine LW.q rfl (Qt.fieldAddr (off := 3) (by kernel_rfl) rfl) ?_
    first | refine LW.q rfl (Qt.load (by kernel_rfl) rfl rfl) ?_ | refine LW.q rfl (Qt.load (by kernel_rfl) rfl (map_at _ _ _ (by omega))) ?_ | refine LW.q rfl (Qt.load (by kernel_rfl) rfl (flat_cell0 _ _ _ (by intros; rfl) _ (by omega) (by rfl))) ?_ | refine LW.q rfl (Qt.load (by kernel_rfl) rfl (flat_cell _ _ _ (by intros; rfl) _ _ (by omega) (by rfl))) ?_ | refine LW.q rfl (Qt.load (by kernel_rfl) rfl (bytes_at _ _ (by omega))) ?_
    refine LW.q rfl (Qt.move rfl) ?_
    refine LW.q rfl (Qt.index _ (e := 81) (sz := 6) (by kernel_rfl) rfl rfl rfl (by omega)) ?_
    refine LW.q rfl (Qt.fieldAddr0 (by kernel_rfl) rfl) ?_
    refine LW.e0 rfl (Ef.store1 (by kernel_rfl) rfl rfl rfl (by omega) ?_)
    rw [show (0 + m * 6) = 0 + m * 6 + 0 from rfl, fm_set (y := fm1) hat 0 (by omega) _ rfl, fm_rep m n (by omega)]
    refine LW.done ?_
    refine T.region ?_
    refine LW.q rfl (Qt.add rfl rfl (wr64 (by omega) (by omega))) ?_
    refine LW.q rfl (Qt.move rfl) ?_
    refine LW.done ?_
    refine ⟨_, ?_, _, ⟨_, m + 1, by omega, rfl, (updS rfl (updS rfl (updS rfl rfl))), rfl⟩, Sub.any⟩
    first | omega | (simp; omega)
   ·
    obtain rfl : m = n := by omega
    rw [Nat.sub_self, List.replicate_zero, List.append_nil]
    refine T.exit ?_
    refine T.seq ?_
    refine T.region ?_
    refine LW.q rfl (Qt.move rfl) ?_
    refine LW.q rfl (Qt.assign rfl) ?_
    refine LW.q rfl (Qt.assign rfl) ?_
    refine LW.done ?_
    refine T.ret ?_
    exact ⟨.inl rfl, _, _, res [_, _] rfl ⟨rvT rfl, rvT rfl, trivial⟩, ⟨g55, g51, p53, c53, rfl, rfl⟩, Sub.any⟩
 ·
  refine RO.eS rfl rfl (Ef.call (Bf.clone B S lv ls ls.length rfl hv h1' hb) Tryd.func32 rfl rfl rfl ?_)
  rintro _ _ ⟨p53, c53, rfl, rfl⟩
  try simp only [List.cons_append, List.nil_append]
  refine ⟨Sub.any, ?_⟩
  refine RW.one 5 (by kernel_rfl) ?_
  refine RO.eS rfl rfl (Ef.make n fmZ 56 Bf.elemFr (by kernel_rfl) rfl rfl rfl rfl (by omega) (by unfold maxLen; omega) ?_)
  rintro g51
  try simp only [List.cons_append, List.nil_append]
  rw [made_frames, show List.replicate n fm0 = List.replicate 0 fm1 ++ List.replicate (n - 0) fm0 by simp]
  refine ⟨Sub.any, ?_⟩
  refine RW.q 8 rfl rfl (by kernel_rfl) Sub.any (Qt.build [(0, 3), (3, 1), (4, 1), (5, 1)] [.pointer none, .int .i64 0, .int .i64 0, .slice none 0 0, .int .i64 0, .slice none 0 0] [_, _, _, _, _, _] [(0, _), (1, _), (3, _)] (by kernel_rfl) (by unfold zeroB; kernel_rfl) rfl rfl) ?_
  refine RW.one 9 (by kernel_rfl) ?_
  refine RO.eS rfl rfl (Ef.box [_, _, _, _, _, _] rfl rfl ?_)
  intro g55
  refine ⟨Sub.any, ?_⟩
  refine RW.done (by rfl) ?_
  simp only [List.drop_succ_cons, List.drop_zero, List.drop_nil]
  refine LW.q rfl (Qt.assign rfl) ?_
  refine LW.done ?_
  refine T.seq ?_
  refine T.seq ?_
  refine T.region ?_
  refine LW.q rfl (Qt.move rfl) ?_
  refine LW.q rfl (Qt.nilCheck rfl) ?_
  refine LW.q rfl (Qt.fieldAddr (off := 3) (by kernel_rfl) rfl) ?_
  first | refine LW.q rfl (Qt.load (by kernel_rfl) rfl rfl) ?_ | refine LW.q rfl (Qt.load (by kernel_rfl) rfl (map_at _ _ _ (by omega))) ?_ | refine LW.q rfl (Qt.load (by kernel_rfl) rfl (flat_cell0 _ _ _ (by intros; rfl) _ (by omega) (by rfl))) ?_ | refine LW.q rfl (Qt.load (by kernel_rfl) rfl (flat_cell _ _ _ (by intros; rfl) _ _ (by omega) (by rfl))) ?_ | refine LW.q rfl (Qt.load (by kernel_rfl) rfl (bytes_at _ _ (by omega))) ?_
  refine LW.q rfl (Qt.len (e := 81) (sz := 6) (by kernel_rfl) rfl) ?_
  refine LW.q rfl (Qt.move rfl) ?_
  refine LW.done ?_
  refine T.block ?_
  refine T.loop (fun mz fz lz => ∃ (f0 : Fr) (m : Nat), (m ≤ n) ∧ mz = n - m ∧ fz = (upd (upd (upd f0 12 (.pointer (some ⟨g55, 0, none⟩))) 60 (.int .i64 n)) 61 (.int .i64 m)) ∧ lz = poolB g55 b g51 n first count 0 p53 ls.length c53 :: fmR g51 n (List.replicate m fm1 ++ List.replicate (n - m) fm0) :: lgR p53 ls.length c53 ls :: dskA b D :: (S ++ F)) ?_ ?_
  · refine ⟨_, _, ⟨_, 0, Nat.zero_le _, rfl, (updS rfl (updS rfl (updS rfl rfl))), rfl⟩, Sub.any⟩
  ·
   rintro mz fz lz ⟨f0, m, hm, hmz, rfl, rfl⟩
   subst mz
   try simp only [List.cons_append, List.nil_append]
   refine T.seq ?_
   refine T.region ?_
   refine LW.q rfl (Qt.lss rfl rfl) ?_
   refine LW.done ?_
   refine T.seq ?_
   refine T.condP rfl (fun hlt => ?_) (fun hlt => ?_)
   ·
    have hfl := fm_len (List.replicate m fm1 ++ List.replicate (n - m) fm0)
    rw [List.length_append, List.length_replicate, List.length_replicate] at hfl
    have hat : (List.replicate m fm1 ++ List.replicate (n - m) fm0)[m]? = some fm0 := by rw [List.getElem?_append_right (by simp), List.length_replicate, Nat.sub_self, List.getElem?_replicate, if_pos (by omega)]
    refine T.skip ?_
    refine T.seq ?_
    refine T.block ?_
    refine T.seq ?_
    refine T.region ?_
    refine LW.q rfl (Qt.move rfl) ?_
    refine LW.q rfl (Qt.assign rfl) ?_
    refine LW.done ?_
    refine T.region ?_
    refine LW.q rfl (Qt.move rfl) ?_
    refine LW.q rfl (Qt.nilCheck rfl) ?_
    refine LW.q rfl (Qt.fieldAddr (off := 3) (by kernel_rfl) rfl) ?_
    first | refine LW.q rfl (Qt.load (by kernel_rfl) rfl rfl) ?_ | refine LW.q rfl (Qt.load (by kernel_rfl) rfl (map_at _ _ _ (by omega))) ?_ | refine LW.q rfl (Qt.load (by kernel_rfl) rfl (flat_cell0 _ _ _ (by intros; rfl) _ (by omega) (by rfl))) ?_ | refine LW.q rfl (Qt.load (by kernel_rfl) rfl (flat_cell _ _ _ (by intros; rfl) _ _ (by omega) (by rfl))) ?_ | refine LW.q rfl (Qt.load (by kernel_rfl) rfl (bytes_at _ _ (by omega))) ?_
    refine LW.q rfl (Qt.move rfl) ?_
    refine LW.q rfl (Qt.index _ (e := 81) (sz := 6) (by kernel_rfl) rfl rfl rfl (by omega)) ?_
    refine LW.q rfl (Qt.fieldAddr0 (by kernel_rfl) rfl) ?_
    refine LW.e0 rfl (Ef.store1 (by kernel_rfl) rfl rfl rfl (by omega) ?_)
    rw [show (0 + m * 6) = 0 + m * 6 + 0 from rfl, fm_set (y := fm1) hat 0 (by omega) _ rfl, fm_rep m n (by omega)]
    refine LW.done ?_
    refine T.region ?_
    refine LW.q rfl (Qt.add rfl rfl (wr64 (by omega) (by omega))) ?_
    refine LW.q rfl (Qt.move rfl) ?_
    refine LW.done ?_
    refine ⟨_, ?_, _, ⟨_, m + 1, by omega, rfl, (updS rfl (updS rfl (updS rfl rfl))), rfl⟩, Sub.any⟩
    first | omega | (simp; omega)
   ·
    obtain rfl : m = n := by omega
    rw [Nat.sub_self, List.replicate_zero, List.append_nil]
    refine T.exit ?_
    refine T.seq ?_
    refine T.region ?_
    refine LW.q rfl (Qt.move rfl) ?_
    refine LW.q rfl (Qt.assign rfl) ?_
    refine LW.q rfl (Qt.assign rfl) ?_
    refine LW.done ?_
    refine T.ret ?_
    exact ⟨.inl rfl, _, _, res [_, _] rfl ⟨rvT rfl, rvT rfl, trivial⟩, ⟨g55, g51, p53, c53, rfl, rfl⟩, Sub.any⟩
end Go.Proofs.YtegohgaccmkigaaDoor

/- The package buffer: force, victim, Pin, as far as the statements BufferNews and BufferKeeps reach. Conditions: sizes. -/
set_option linter.unusedSimpArgs false
set_option linter.unusedVariables false
namespace Go.Proofs.YtegohgaccmkigaaDoor
open Go.RowKit

set_option maxHeartbeats 1000000 in
set_option maxRecDepth 100000 in
theorem Bf.force1 (B : Base) (g b gf n first count hand : Nat) (pl : Option Addr) (cl : Nat) (gl bl : Nat) (W : Wl) (mark : Int) (hdur : W.dur < 2 ^ 40) (hm : mark ≤ W.dur) :
  Fn Tryd.prog B 41 #[.pointer (some ⟨g, 0, none⟩), .int .i64 mark] [poolB g b gf n first count hand pl 1 cl, lgR pl 1 cl [.iface 44 (.pointer (some ⟨gl, 0, none⟩))], wlA gl bl W] (fun u l => u = .tuple #[] ∧ l = [poolB g b gf n first count hand pl 1 cl, lgR pl 1 cl [.iface 44 (.pointer (some ⟨gl, 0, none⟩))], wlA gl bl W]) := by
 refine Fn.enter2 19 Tryd.func41 rfl rfl (Nat.le_of_ble_eq_true rfl) (fun F => ?_)
 try simp only [List.cons_append, List.nil_append]
 refine T.own (fun w ho => ?_)
 obtain ⟨gp, rfl⟩ : ∃ gp, pl = some ⟨gp, 0, none⟩ := (ho.slice_at (p := pl) (m := 1) (c := cl)).2.1 (by omega)
 clear ho
 refine T.seq ?_
 refine T.region ?_
 refine LW.q rfl (Qt.move rfl) ?_
 refine LW.q rfl (Qt.nilCheck rfl) ?_
 refine LW.q rfl (Qt.fieldAddr (off := 5) (by kernel_rfl) rfl) ?_
 first | refine LW.q rfl (Qt.load (by kernel_rfl) rfl rfl) ?_ | refine LW.q rfl (Qt.load (by kernel_rfl) rfl (map_at _ _ _ (by omega))) ?_ | refine LW.q rfl (Qt.load (by kernel_rfl) rfl (flat_cell0 _ _ _ (by intros; rfl) _ (by omega) (by rfl))) ?_ | refine LW.q rfl (Qt.load (by kernel_rfl) rfl (flat_cell _ _ _ (by intros; rfl) _ _ (by omega) (by rfl))) ?_ | refine LW.q rfl (Qt.load (by kernel_rfl) rfl (bytes_at _ _ (by omega))) ?_
 refine LW.q rfl (Qt.len (e := 79) (sz := 1) (by kernel_rfl) rfl) ?_
 refine LW.q rfl (Qt.move rfl) ?_
 refine LW.done ?_
 refine T.block ?_
 refine T.loop (fun mz fz lz => ∃ (f0 : Fr) (k : Nat), (k ≤ 1) ∧ mz = 1 - k ∧ fz = (upd (upd (upd (upd f0 1 (.int .i64 mark)) 9 (.slice (some ⟨gp, 0, none⟩) 1 cl)) 10 (.int .i64 1)) 11 (.int .i64 k)) ∧ lz = poolB g b gf n first count hand (some ⟨gp, 0, none⟩) 1 cl :: lgR (some ⟨gp, 0, none⟩) 1 cl [.iface 44 (.pointer (some ⟨gl, 0, none⟩))] :: wlA gl bl W :: F) ?_ ?_
 · refine ⟨_, _, ⟨_, 0, Nat.zero_le _, rfl, (updS rfl (updS rfl (updS rfl (updS rfl rfl)))), rfl⟩, Sub.any⟩
 ·
  rintro mz fz lz ⟨f0, k, hk, hmz, rfl, rfl⟩
  subst mz
  try simp only [List.cons_append, List.nil_append]
  refine T.seq ?_
  refine T.region ?_
  refine LW.q rfl (Qt.lss rfl rfl) ?_
  refine LW.done ?_
  refine T.seq ?_
  refine T.condP rfl (fun hlt => ?_) (fun hlt => ?_)
  ·
   obtain rfl : k = 0 := by omega
   refine T.skip ?_
   refine T.seq ?_
   refine T.block ?_
   refine T.seq ?_
   refine T.region ?_
   refine LW.q rfl (Qt.index _ (e := 79) (sz := 1) (by kernel_rfl) rfl rfl rfl (by omega)) ?_
   refine LW.q rfl (Qt.load (v := .iface 44 (.pointer (some ⟨gl, 0, none⟩))) (by kernel_rfl) rfl rfl) ?_
   refine LW.q rfl (Qt.assign rfl) ?_
   refine LW.done ?_
   refine T.region ?_
   refine LW.q rfl (Qt.move rfl) ?_
   refine LW.q rfl (Qt.move rfl) ?_
   refine LW.e rfl (Ef.callI (vs := [.int .i64 mark]) (Wl.forceNo B gl bl W mark hdur hm) Tryd.func105 rfl rfl rfl (fun w => by kernel_rfl) rfl ?_)
   rintro _ _ ⟨rfl, rfl⟩
   try simp only [List.cons_append, List.nil_append]
   refine LW.done ?_
   refine T.region ?_
   refine LW.q rfl (Qt.add rfl rfl (wr64 (by omega) (by omega))) ?_
   refine LW.q rfl (Qt.move rfl) ?_
   refine LW.done ?_
   refine ⟨_, ?_, _, ⟨_, 1, Nat.le_refl _, rfl, (updS rfl (updS rfl (updS rfl (updS rfl rfl)))), rfl⟩, Sub.any⟩
   first | omega | (simp; omega)
  ·
   refine T.exit ?_
   exact ⟨.inr rfl, _, _, res [] rfl trivial, ⟨rfl, rfl⟩, Sub.any⟩

set_option maxHeartbeats 2000000 in
set_option maxRecDepth 100000 in
theorem Bf.victim_free (B : Base) (g b gf n first count hand : Nat) (pl : Option Addr) (nl cl : Nat) (Fs : List Fm) (i : Nat) (x : Fm) (hn : Fs.length = n) (hn2 : n ≤ 4096) (hx : Fs[i]? = some x) (hp : x.page < 0) (hfirst : ∀ (j : Nat), j < i → ∀ y : Fm, Fs[j]? = some y → 0 ≤ y.page) :
  Fn Tryd.prog B 35 #[.pointer (some ⟨g, 0, none⟩)] [poolB g b gf n first count hand pl nl cl, fmR gf n Fs] (fun u l => u = .pointer (some ⟨gf, 0 + i * 6, none⟩) ∧ l = [poolB g b gf n first count hand pl nl cl, fmR gf n Fs]) := by
 have hi : i < n := by rw [← hn]; exact (List.getElem?_eq_some_iff.1 hx).1
 refine Fn.enter1 105 Tryd.func35 rfl rfl (Nat.le_of_ble_eq_true rfl) (fun F => ?_)
 try simp only [List.cons_append, List.nil_append]
 refine T.seq ?_
 refine T.region ?_
 refine LW.q rfl (Qt.assign rfl) ?_
 refine LW.done ?_
 refine T.seq ?_
 refine T.region ?_
 refine LW.q rfl (Qt.assign rfl) ?_
 refine LW.done ?_
 refine T.seq ?_
 refine T.seq ?_
 refine T.region ?_
 refine LW.q rfl (Qt.move rfl) ?_
 refine LW.q rfl (Qt.nilCheck rfl) ?_
 refine LW.q rfl (Qt.fieldAddr (off := 3) (by kernel_rfl) rfl) ?_
 first | refine LW.q rfl (Qt.load (by kernel_rfl) rfl rfl) ?_ | refine LW.q rfl (Qt.load (by kernel_rfl) rfl (map_at _ _ _ (by omega))) ?_ | refine LW.q rfl (Qt.load (by kernel_rfl) rfl (flat_cell0 _ _ _ (by intros; rfl) _ (by omega) (by rfl))) ?_ | refine LW.q rfl (Qt.load (by kernel_rfl) rfl (flat_cell _ _ _ (by intros; rfl) _ _ (by omega) (by rfl))) ?_ | refine LW.q rfl (Qt.load (by kernel_rfl) rfl (bytes_at _ _ (by omega))) ?_
 refine LW.q rfl (Qt.len (e := 81) (sz := 6) (by kernel_rfl) rfl) ?_
 refine LW.q rfl (Qt.move rfl) ?_
 refine LW.done ?_
 refine T.block ?_
 refine T.loop (fun mz fz lz => ∃ (f0 : Fr) (k : Nat) (fb : Bool), (k ≤ i) ∧ mz = n - k ∧ fz = (upd (upd (upd (upd f0 0 (.pointer (some ⟨g, 0, none⟩))) 3 (.bool fb)) 11 (.int .i64 n)) 12 (.int .i64 k)) ∧ lz = poolB g b gf n first count hand pl nl cl :: fmR gf n Fs :: F) ?_ ?_
 · refine ⟨_, _, ⟨_, 0, true, Nat.zero_le _, rfl, (updS rfl (updS rfl (updS rfl (updS rfl rfl)))), rfl⟩, Sub.any⟩
 ·
  rintro mz fz lz ⟨f0, k, fb, hk, hmz, rfl, rfl⟩
  subst mz
  try simp only [List.cons_append, List.nil_append]
  obtain ⟨y, hy⟩ : ∃ y, Fs[k]? = some y := ⟨_, List.getElem?_eq_getElem (by omega)⟩
  refine T.seq ?_
  refine T.region ?_
  refine LW.q rfl (Qt.lss rfl rfl) ?_
  refine LW.done ?_
  refine T.seq ?_
  first | refine T.condT rfl ?_ | refine T.condPT rfl (by omega) ?_ | refine T.condBT rfl (by omega) ?_
  by_cases e : k = i
  ·
   subst e
   obtain rfl : y = x := by rw [hx] at hy; exact (Option.some.inj hy).symm
   refine T.skip ?_
   refine T.seq ?_
   refine T.block ?_
   refine T.seq ?_
   refine T.region ?_
   refine LW.q rfl (Qt.move rfl) ?_
   refine LW.q rfl (Qt.assign rfl) ?_
   refine LW.done ?_
   refine T.seq ?_
   refine T.region ?_
   refine LW.q rfl (Qt.move rfl) ?_
   refine LW.q rfl (Qt.nilCheck rfl) ?_
   refine LW.q rfl (Qt.fieldAddr (off := 3) (by kernel_rfl) rfl) ?_
   first | refine LW.q rfl (Qt.load (by kernel_rfl) rfl rfl) ?_ | refine LW.q rfl (Qt.load (by kernel_rfl) rfl (map_at _ _ _ (by omega))) ?_ | refine LW.q rfl (Qt.load (by kernel_rfl) rfl (flat_cell0 _ _ _ (by intros; rfl) _ (by omega) (by rfl))) ?_ | refine LW.q rfl (Qt.load (by kernel_rfl) rfl (flat_cell _ _ _ (by intros; rfl) _ _ (by omega) (by rfl))) ?_ | refine LW.q rfl (Qt.load (by kernel_rfl) rfl (bytes_at _ _ (by omega))) ?_
   refine LW.q rfl (Qt.move rfl) ?_
   refine LW.q rfl (Qt.index _ (e := 81) (sz := 6) (by kernel_rfl) rfl rfl rfl (by omega)) ?_
   refine LW.q rfl (Qt.assign rfl) ?_
   refine LW.done ?_
   refine T.seq ?_
   refine T.seq ?_
   refine T.region ?_
   refine LW.q rfl (Qt.move rfl) ?_
   refine LW.q rfl (Qt.nilCheck rfl) ?_
   refine LW.q rfl (Qt.fieldAddr0 (by kernel_rfl) rfl) ?_
   refine LW.q rfl (Qt.load (v := .int .i64 y.page) (by kernel_rfl) rfl (fm_at hy 0 (by omega))) ?_
   refine LW.q rfl (Qt.lss rfl rfl) ?_
   refine LW.done ?_
   first | refine T.condT rfl ?_ | refine T.condPT rfl (by omega) ?_ | refine T.condBT rfl (by omega) ?_
   refine T.seq ?_
   refine T.region ?_
   refine LW.q rfl (Qt.move rfl) ?_
   refine LW.q rfl (Qt.assign rfl) ?_
   refine LW.done ?_
   refine T.ret ?_
   exact ⟨.inl rfl, _, _, res [_] rfl ⟨rvT rfl, trivial⟩, ⟨rfl, rfl⟩, Sub.any⟩
  ·
   have hpos := hfirst k (by omega) y hy
   refine T.skip ?_
   refine T.seq ?_
   refine T.block ?_
   refine T.seq ?_
   refine T.region ?_
   refine LW.q rfl (Qt.move rfl) ?_
   refine LW.q rfl (Qt.assign rfl) ?_
   refine LW.done ?_
   refine T.seq ?_
   refine T.region ?_
   refine LW.q rfl (Qt.move rfl) ?_
   refine LW.q rfl (Qt.nilCheck rfl) ?_
   refine LW.q rfl (Qt.fieldAddr (off := 3) (by kernel_rfl) rfl) ?_
   first | refine LW.q rfl (Qt.load (by kernel_rfl) rfl rfl) ?_ | refine LW.q rfl (Qt.load (by kernel_rfl) rfl (map_at _ _ _ (by omega))) ?_ | refine LW.q rfl (Qt.load (by kernel_rfl) rfl (flat_cell0 _ _ _ (by intros; rfl) _ (by omega) (by rfl))) ?_ | refine LW.q rfl (Qt.load (by kernel_rfl) rfl (flat_cell _ _ _ (by intros; rfl) _ _ (by omega) (by rfl))) ?_ | refine LW.q rfl (Qt.load (by kernel_rfl) rfl (bytes_at _ _ (by omega))) ?_
   refine LW.q rfl (Qt.move rfl) ?_
   refine LW.q rfl (Qt.index _ (e := 81) (sz := 6) (by kernel_rfl) rfl rfl rfl (by omega)) ?_
   refine LW.q rfl (Qt.assign rfl) ?_
   refine LW.done ?_
   refine T.seq ?_
   refine T.seq ?_
   refine T.region ?_
   refine LW.q rfl (Qt.move rfl) ?_
   refine LW.q rfl (Qt.nilCheck rfl) ?_
   refine LW.q rfl (Qt.fieldAddr0 (by kernel_rfl) rfl) ?_
   refine LW.q rfl (Qt.load (v := .int .i64 y.page) (by kernel_rfl) rfl (fm_at hy 0 (by omega))) ?_
   refine LW.q rfl (Qt.lss rfl rfl) ?_
   refine LW.done ?_
   first | refine T.condF rfl ?_ | refine T.condPF rfl (by omega) ?_ | refine T.condBF rfl (by omega) ?_
   refine T.skip ?_
   refine T.region ?_
   refine LW.q rfl (Qt.move rfl) ?_
   refine LW.q rfl (Qt.move rfl) ?_
   refine LW.split (t := 28) rfl (fun hfb => ?_) (fun hfb => ?_)
   ·
    try replace hfb := of_decide_eq_true hfb
    refine LW.q rfl (Qt.move rfl) ?_
    refine LW.q rfl (Qt.nilCheck rfl) ?_
    refine LW.q rfl (Qt.fieldAddr (off := 3) (by kernel_rfl) rfl) ?_
    refine LW.q rfl (Qt.load (v := .int .i64 y.pins) (by kernel_rfl) rfl (fm_at hy 3 (by omega))) ?_
    refine LW.q rfl (Qt.gtr rfl rfl) ?_
    refine LW.q rfl (Qt.pick rfl rfl) ?_
    refine LW.q rfl (Qt.assign rfl) ?_
    refine LW.done ?_
    refine T.region ?_
    refine LW.q rfl (Qt.add rfl rfl (wr64 (by omega) (by omega))) ?_
    refine LW.q rfl (Qt.move rfl) ?_
    refine LW.done ?_
    refine ⟨_, ?_, _, ⟨_, k + 1, _, by omega, rfl, (updS rfl (updS rfl (updS rfl (updS rfl rfl)))), rfl⟩, Sub.any⟩
    first | omega | (simp; omega)
   ·
    try replace hfb := of_decide_eq_false hfb
    refine LW.s rfl ?_
    refine LW.s rfl ?_
    refine LW.s rfl ?_
    refine LW.s rfl ?_
    refine LW.s rfl ?_
    refine LW.q rfl (Qt.pick rfl rfl) ?_
    refine LW.q rfl (Qt.assign rfl) ?_
    refine LW.done ?_
    refine T.region ?_
    refine LW.q rfl (Qt.add rfl rfl (wr64 (by omega) (by omega))) ?_
    refine LW.q rfl (Qt.move rfl) ?_
    refine LW.done ?_
    refine ⟨_, ?_, _, ⟨_, k + 1, _, by omega, rfl, (updS rfl (updS rfl (updS rfl (updS rfl rfl)))), rfl⟩, Sub.any⟩
    first | omega | (simp; omega)
set_option maxHeartbeats 2000000 in
set_option maxRecDepth 100000 in
theorem Bf.victim_full (B : Base) (g b gf n first count hand : Nat) (pl : Option Addr) (nl cl : Nat) (Fs : List Fm) (hn : Fs.length = n) (hn2 : n ≤ 4096) (hall : ∀ (j : Nat) (y : Fm), Fs[j]? = some y → 0 ≤ y.page ∧ 0 < y.pins) :
  Fn Tryd.prog B 35 #[.pointer (some ⟨g, 0, none⟩)] [poolB g b gf n first count hand pl nl cl, fmR gf n Fs] (fun u l => u = .pointer none ∧ l = [poolB g b gf n first count hand pl nl cl, fmR gf n Fs]) := by
 refine Fn.enter1 105 Tryd.func35 rfl rfl (Nat.le_of_ble_eq_true rfl) (fun F => ?_)
 try simp only [List.cons_append, List.nil_append]
 refine T.seq ?_
 refine T.region ?_
 refine LW.q rfl (Qt.assign rfl) ?_
 refine LW.done ?_
 refine T.seq ?_
 refine T.region ?_
 refine LW.q rfl (Qt.assign rfl) ?_
 refine LW.done ?_
 refine T.seq ?_
 refine T.seq ?_
 refine T.region ?_
 refine LW.q rfl (Qt.move rfl) ?_
 refine LW.q rfl (Qt.nilCheck rfl) ?_
 refine LW.q rfl (Qt.fieldAddr (off := 3) (by kernel_rfl) rfl) ?_
 first | refine LW.q rfl (Qt.load (by kernel_rfl) rfl rfl) ?_ | refine LW.q rfl (Qt.load (by kernel_rfl) rfl (map_at _ _ _ (by omega))) ?_ | refine LW.q rfl (Qt.load (by kernel_rfl) rfl (flat_cell0 _ _ _ (by intros; rfl) _ (by omega) (by rfl))) ?_ | refine LW.q rfl (Qt.load (by kernel_rfl) rfl (flat_cell _ _ _ (by intros; rfl) _ _ (by omega) (by rfl))) ?_ | refine LW.q rfl (Qt.load (by kernel_rfl) rfl (bytes_at _ _ (by omega))) ?_
 refine LW.q rfl (Qt.len (e := 81) (sz := 6) (by kernel_rfl) rfl) ?_
 refine LW.q rfl (Qt.move rfl) ?_
 refine LW.done ?_
 refine T.block ?_
 refine T.loop (fun mz fz lz => ∃ (f0 : Fr) (k : Nat) (fb : Bool), (k ≤ n ∧ fb = true) ∧ mz = n - k ∧ fz = (upd (upd (upd (upd f0 0 (.pointer (some ⟨g, 0, none⟩))) 3 (.bool fb)) 11 (.int .i64 n)) 12 (.int .i64 k)) ∧ lz = poolB g b gf n first count hand pl nl cl :: fmR gf n Fs :: F) ?_ ?_
 · refine ⟨_, _, ⟨_, 0, true, ⟨Nat.zero_le _, rfl⟩, rfl, (updS rfl (updS rfl (updS rfl (updS rfl rfl)))), rfl⟩, Sub.any⟩
 ·
  rintro mz fz lz ⟨f0, k, fb, ⟨hk, hfb⟩, hmz, rfl, rfl⟩
  subst mz
  try simp only [List.cons_append, List.nil_append]
  subst hfb
  refine T.seq ?_
  refine T.region ?_
  refine LW.q rfl (Qt.lss rfl rfl) ?_
  refine LW.done ?_
  refine T.seq ?_
  refine T.condP rfl (fun hlt => ?_) (fun hlt => ?_)
  ·
   obtain ⟨y, hy⟩ : ∃ y, Fs[k]? = some y := ⟨_, List.getElem?_eq_getElem (by omega)⟩
   obtain ⟨hy1, hy2⟩ := hall k y hy
   refine T.skip ?_
   refine T.seq ?_
   refine T.block ?_
   refine T.seq ?_
   refine T.region ?_
   refine LW.q rfl (Qt.move rfl) ?_
   refine LW.q rfl (Qt.assign rfl) ?_
   refine LW.done ?_
   refine T.seq ?_
   refine T.region ?_
   refine LW.q rfl (Qt.move rfl) ?_
   refine LW.q rfl (Qt.nilCheck rfl) ?_
   refine LW.q rfl (Qt.fieldAddr (off := 3) (by kernel_rfl) rfl) ?_
   first | refine LW.q rfl (Qt.load (by kernel_rfl) rfl rfl) ?_ | refine LW.q rfl (Qt.load (by kernel_rfl) rfl (map_at _ _ _ (by omega))) ?_ | refine LW.q rfl (Qt.load (by kernel_rfl) rfl (flat_cell0 _ _ _ (by intros; rfl) _ (by omega) (by rfl))) ?_ | refine LW.q rfl (Qt.load (by kernel_rfl) rfl (flat_cell _ _ _ (by intros; rfl) _ _ (by omega) (by rfl))) ?_ | refine LW.q rfl (Qt.load (by kernel_rfl) rfl (bytes_at _ _ (by omega))) ?_
   refine LW.q rfl (Qt.move rfl) ?_
   refine LW.q rfl (Qt.index _ (e := 81) (sz := 6) (by kernel_rfl) rfl rfl rfl (by omega)) ?_
   refine LW.q rfl (Qt.assign rfl) ?_
   refine LW.done ?_
   refine T.seq ?_
   refine T.seq ?_
   refine T.region ?_
   refine LW.q rfl (Qt.move rfl) ?_
   refine LW.q rfl (Qt.nilCheck rfl) ?_
   refine LW.q rfl (Qt.fieldAddr0 (by kernel_rfl) rfl) ?_
   refine LW.q rfl (Qt.load (v := .int .i64 y.page) (by kernel_rfl) rfl (fm_at hy 0 (by omega))) ?_
   refine LW.q rfl (Qt.lss rfl rfl) ?_
   refine LW.done ?_
   first | refine T.condF rfl ?_ | refine T.condPF rfl (by omega) ?_ | refine T.condBF rfl (by omega) ?_
   refine T.skip ?_
   refine T.region ?_
   refine LW.q rfl (Qt.move rfl) ?_
   refine LW.q rfl (Qt.move rfl) ?_
   first | refine LW.gT (t := 28) rfl rfl ?_ | refine LW.gT (t := 28) rfl (decide_eq_true (by omega)) ?_ | refine LW.gT (t := 28) rfl (by omega) ?_
   refine LW.q rfl (Qt.move rfl) ?_
   refine LW.q rfl (Qt.nilCheck rfl) ?_
   refine LW.q rfl (Qt.fieldAddr (off := 3) (by kernel_rfl) rfl) ?_
   refine LW.q rfl (Qt.load (v := .int .i64 y.pins) (by kernel_rfl) rfl (fm_at hy 3 (by omega))) ?_
   refine LW.q rfl (Qt.gtr rfl rfl) ?_
   refine LW.q rfl (Qt.pick rfl rfl) ?_
   refine LW.q rfl (Qt.assign rfl) ?_
   refine LW.done ?_
   refine T.region ?_
   refine LW.q rfl (Qt.add rfl rfl (wr64 (by omega) (by omega))) ?_
   refine LW.q rfl (Qt.move rfl) ?_
   refine LW.done ?_
   refine ⟨_, ?_, _, ⟨_, k + 1, _, ⟨by omega, by simpa using hy2⟩, rfl, (updS rfl (updS rfl (updS rfl (updS rfl rfl)))), rfl⟩, Sub.any⟩
   first | omega | (simp; omega)
  ·
   refine T.exit ?_
   refine T.seq ?_
   refine T.seq ?_
   refine T.region ?_
   refine LW.q rfl (Qt.move rfl) ?_
   refine LW.done ?_
   first | refine T.condT rfl ?_ | refine T.condPT rfl (by omega) ?_ | refine T.condBT rfl (by omega) ?_
   refine T.seq ?_
   refine T.region ?_
   refine LW.q rfl (Qt.assign rfl) ?_
   refine LW.done ?_
   refine T.ret ?_
   exact ⟨.inl rfl, _, _, res [_] rfl ⟨rvT rfl, trivial⟩, ⟨rfl, rfl⟩, Sub.any⟩
set_option maxHeartbeats 4000000 in
set_option maxRecDepth 100000 in
theorem Bf.victim_one (B : Base) (g b gf first count : Nat) (pl : Option Addr) (cl : Nat) (x : Fm) (gl : Nat) (W : Wl) (D : DD) (j : Nat) (hj : x.page = j) (hx1 : x.pins = 0) (hx2 : x.used = true) (hx3 : x.dirty = true) (hx4 : x.b.length = 256) (gx : Nat) (hgx : x.p = some ⟨gx, 0, none⟩) (hdur : W.dur < 2 ^ 40) (hm : x.mark ≤ W.dur) (hsec : first + j < D.secs.length) (hmx : D.secs.length ≤ 4096) (hroom : D.pend.length < 2 ^ 32) :
  Fn Tryd.prog B 35 #[.pointer (some ⟨g, 0, none⟩)] [poolB g b gf 1 first count 0 pl 1 cl, fmR gf 1 [x], lgR pl 1 cl [.iface 44 (.pointer (some ⟨gl, 0, none⟩))], wlA gl b W, dskA b D, rB (.slice (some ⟨gx, 0, none⟩) 256 x.c) 256 x.b]
   (fun u l => u = .pointer (some ⟨gf, 0 + 0 * 6, none⟩) ∧ l = [poolB g b gf 1 first count 0 pl 1 cl, fmR gf 1 [{ x with used := false }], lgR pl 1 cl [.iface 44 (.pointer (some ⟨gl, 0, none⟩))], wlA gl b W, dskA b (D.write (first + j) x.b)]) := by
 refine Fn.enter1 105 Tryd.func35 rfl rfl (Nat.le_of_ble_eq_true rfl) (fun F => ?_)
 try simp only [List.cons_append, List.nil_append]
 refine T.seq ?_
 refine T.region ?_
 refine LW.q rfl (Qt.assign rfl) ?_
 refine LW.done ?_
 refine T.seq ?_
 refine T.region ?_
 refine LW.q rfl (Qt.assign rfl) ?_
 refine LW.done ?_
 refine T.seq ?_
 refine T.seq ?_
 refine T.region ?_
 refine LW.q rfl (Qt.move rfl) ?_
 refine LW.q rfl (Qt.nilCheck rfl) ?_
 refine LW.q rfl (Qt.fieldAddr (off := 3) (by kernel_rfl) rfl) ?_
 first | refine LW.q rfl (Qt.load (by kernel_rfl) rfl rfl) ?_ | refine LW.q rfl (Qt.load (by kernel_rfl) rfl (map_at _ _ _ (by omega))) ?_ | refine LW.q rfl (Qt.load (by kernel_rfl) rfl (flat_cell0 _ _ _ (by intros; rfl) _ (by omega) (by rfl))) ?_ | refine LW.q rfl (Qt.load (by kernel_rfl) rfl (flat_cell _ _ _ (by intros; rfl) _ _ (by omega) (by rfl))) ?_ | refine LW.q rfl (Qt.load (by kernel_rfl) rfl (bytes_at _ _ (by omega))) ?_
 refine LW.q rfl (Qt.len (e := 81) (sz := 6) (by kernel_rfl) rfl) ?_
 refine LW.q rfl (Qt.move rfl) ?_
 refine LW.done ?_
 refine T.block ?_
 refine T.loop (fun mz fz lz => ∃ (f0 : Fr) (k : Nat) (fb : Bool), (k ≤ 1 ∧ fb = decide (k = 0)) ∧ mz = 1 - k ∧ fz = (upd (upd (upd (upd f0 0 (.pointer (some ⟨g, 0, none⟩))) 3 (.bool fb)) 11 (.int .i64 1)) 12 (.int .i64 k)) ∧ lz = poolB g b gf 1 first count 0 pl 1 cl :: fmR gf 1 [x] :: lgR pl 1 cl [.iface 44 (.pointer (some ⟨gl, 0, none⟩))] :: wlA gl b W :: dskA b D :: rB (.slice (some ⟨gx, 0, none⟩) 256 x.c) 256 x.b :: F) ?_ ?_
 · refine ⟨_, _, ⟨_, 0, true, ⟨Nat.zero_le _, rfl⟩, rfl, (updS rfl (updS rfl (updS rfl (updS rfl rfl)))), rfl⟩, Sub.any⟩
 ·
  rintro mz fz lz ⟨f0, k, fb, ⟨hk, hfb⟩, hmz, rfl, rfl⟩
  subst mz
  try simp only [List.cons_append, List.nil_append]
  refine T.seq ?_
  refine T.region ?_
  refine LW.q rfl (Qt.lss rfl rfl) ?_
  refine LW.done ?_
  refine T.seq ?_
  refine T.condP rfl (fun hlt => ?_) (fun hlt => ?_)
  ·
   obtain rfl : k = 0 := by omega
   obtain rfl : fb = true := hfb
   refine T.skip ?_
   refine T.seq ?_
   refine T.block ?_
   refine T.seq ?_
   refine T.region ?_
   refine LW.q rfl (Qt.move rfl) ?_
   refine LW.q rfl (Qt.assign rfl) ?_
   refine LW.done ?_
   refine T.seq ?_
   refine T.region ?_
   refine LW.q rfl (Qt.move rfl) ?_
   refine LW.q rfl (Qt.nilCheck rfl) ?_
   refine LW.q rfl (Qt.fieldAddr (off := 3) (by kernel_rfl) rfl) ?_
   first | refine LW.q rfl (Qt.load (by kernel_rfl) rfl rfl) ?_ | refine LW.q rfl (Qt.load (by kernel_rfl) rfl (map_at _ _ _ (by omega))) ?_ | refine LW.q rfl (Qt.load (by kernel_rfl) rfl (flat_cell0 _ _ _ (by intros; rfl) _ (by omega) (by rfl))) ?_ | refine LW.q rfl (Qt.load (by kernel_rfl) rfl (flat_cell _ _ _ (by intros; rfl) _ _ (by omega) (by rfl))) ?_ | refine LW.q rfl (Qt.load (by kernel_rfl) rfl (bytes_at _ _ (by omega))) ?_
   refine LW.q rfl (Qt.move rfl) ?_
   refine LW.q rfl (Qt.index _ (e := 81) (sz := 6) (by kernel_rfl) rfl rfl rfl (by omega)) ?_
   refine LW.q rfl (Qt.assign rfl) ?_
   refine LW.done ?_
   refine T.seq ?_
   refine T.seq ?_
   refine T.region ?_
   refine LW.q rfl (Qt.move rfl) ?_
   refine LW.q rfl (Qt.nilCheck rfl) ?_
   refine LW.q rfl (Qt.fieldAddr0 (by kernel_rfl) rfl) ?_
   refine LW.q rfl (Qt.load (v := .int .i64 x.page) (by kernel_rfl) rfl (fm_at (Fs := [x]) (i := 0) rfl 0 (by omega))) ?_
   refine LW.q rfl (Qt.lss rfl rfl) ?_
   refine LW.done ?_
   first | refine T.condF rfl ?_ | refine T.condPF rfl (by omega) ?_ | refine T.condBF rfl (by omega) ?_
   refine T.skip ?_
   refine T.region ?_
   refine LW.q rfl (Qt.move rfl) ?_
   refine LW.q rfl (Qt.move rfl) ?_
   first | refine LW.gT (t := 28) rfl rfl ?_ | refine LW.gT (t := 28) rfl (decide_eq_true (by omega)) ?_ | refine LW.gT (t := 28) rfl (by omega) ?_
   refine LW.q rfl (Qt.move rfl) ?_
   refine LW.q rfl (Qt.nilCheck rfl) ?_
   refine LW.q rfl (Qt.fieldAddr (off := 3) (by kernel_rfl) rfl) ?_
   refine LW.q rfl (Qt.load (v := .int .i64 x.pins) (by kernel_rfl) rfl (fm_at (Fs := [x]) (i := 0) rfl 3 (by omega))) ?_
   refine LW.q rfl (Qt.gtr rfl rfl) ?_
   refine LW.q rfl (Qt.pick rfl rfl) ?_
   refine LW.q rfl (Qt.assign rfl) ?_
   refine LW.done ?_
   refine T.region ?_
   refine LW.q rfl (Qt.add rfl rfl (wr64 (by omega) (by omega))) ?_
   refine LW.q rfl (Qt.move rfl) ?_
   refine LW.done ?_
   refine ⟨_, ?_, _, ⟨_, 1, _, ⟨Nat.le_refl _, by rw [hx1]; rfl⟩, rfl, (updS rfl (updS rfl (updS rfl (updS rfl rfl)))), rfl⟩, Sub.any⟩
   first | omega | (simp; omega)
  ·
   obtain rfl : k = 1 := by omega
   obtain rfl : fb = false := hfb
   refine T.exit ?_
   refine T.seq ?_
   refine T.seq ?_
   refine T.region ?_
   refine LW.q rfl (Qt.move rfl) ?_
   refine LW.done ?_
   first | refine T.condF rfl ?_ | refine T.condPF rfl (by omega) ?_ | refine T.condBF rfl (by omega) ?_
   clear hlt hk
   have hfe : fmR gf 1 [x] = fmR gf 1 [{ x with used := true }] := by rw [show ({ x with used := true } : Fm) = x by cases x; simp_all]
   rw [hfe]
   refine T.skip ?_
   refine T.block ?_
   refine T.loop (fun mz fz lz => ∃ (f0 : Fr) (mm : Nat) (u : Bool), (u = decide (mm = 1)) ∧ mz = mm ∧ fz = (upd f0 0 (.pointer (some ⟨g, 0, none⟩))) ∧ lz = poolB g b gf 1 first count 0 pl 1 cl :: fmR gf 1 [{ x with used := u }] :: lgR pl 1 cl [.iface 44 (.pointer (some ⟨gl, 0, none⟩))] :: wlA gl b W :: dskA b D :: rB (.slice (some ⟨gx, 0, none⟩) 256 x.c) 256 x.b :: F) ?_ ?_
   · refine ⟨_, _, ⟨_, 1, true, rfl, rfl, (updS rfl rfl), rfl⟩, Sub.any⟩
   ·
    rintro mz fz lz ⟨f0, mm, u, hmm, hmz, rfl, rfl⟩
    subst mz
    try simp only [List.cons_append, List.nil_append]
    have hat : ∀ u, ([{ x with used := u }] : List Fm)[0]? = some { x with used := u } := fun u => rfl
    refine T.block ?_
    refine T.seq ?_
    refine T.drawAll 9 (by kernel_rfl) (Nat.le_of_ble_eq_true rfl) (by kernel_rfl) ?_
    refine RW.q 0 rfl rfl (by kernel_rfl) (Sub.refl _) (Qt.move rfl) ?_
    refine RW.q 1 rfl rfl (by kernel_rfl) (Sub.refl _) (Qt.nilCheck rfl) ?_
    refine RW.q 2 rfl rfl (by kernel_rfl) (Sub.refl _) (Qt.fieldAddr (off := 3) (by kernel_rfl) rfl) ?_
    first | refine RW.q 3 rfl rfl (by kernel_rfl) (Sub.refl _) (Qt.load (by kernel_rfl) rfl rfl) ?_ | refine RW.q 3 rfl rfl (by kernel_rfl) (Sub.refl _) (Qt.load (by kernel_rfl) rfl (map_at _ _ _ (by omega))) ?_ | refine RW.q 3 rfl rfl (by kernel_rfl) (Sub.refl _) (Qt.load (by kernel_rfl) rfl (flat_cell0 _ _ _ (by intros; rfl) _ (by omega) (by rfl))) ?_ | refine RW.q 3 rfl rfl (by kernel_rfl) (Sub.refl _) (Qt.load (by kernel_rfl) rfl (flat_cell _ _ _ (by intros; rfl) _ _ (by omega) (by rfl))) ?_ | refine RW.q 3 rfl rfl (by kernel_rfl) (Sub.refl _) (Qt.load (by kernel_rfl) rfl (bytes_at _ _ (by omega))) ?_
    refine RW.q 4 rfl rfl (by kernel_rfl) (Sub.refl _) (Qt.move rfl) ?_
    refine RW.q 5 rfl rfl (by kernel_rfl) (Sub.refl _) (Qt.nilCheck rfl) ?_
    refine RW.q 6 rfl rfl (by kernel_rfl) (Sub.refl _) (Qt.fieldAddr (off := 4) (by kernel_rfl) rfl) ?_
    first | refine RW.q 7 rfl rfl (by kernel_rfl) (Sub.refl _) (Qt.load (by kernel_rfl) rfl rfl) ?_ | refine RW.q 7 rfl rfl (by kernel_rfl) (Sub.refl _) (Qt.load (by kernel_rfl) rfl (map_at _ _ _ (by omega))) ?_ | refine RW.q 7 rfl rfl (by kernel_rfl) (Sub.refl _) (Qt.load (by kernel_rfl) rfl (flat_cell0 _ _ _ (by intros; rfl) _ (by omega) (by rfl))) ?_ | refine RW.q 7 rfl rfl (by kernel_rfl) (Sub.refl _) (Qt.load (by kernel_rfl) rfl (flat_cell _ _ _ (by intros; rfl) _ _ (by omega) (by rfl))) ?_ | refine RW.q 7 rfl rfl (by kernel_rfl) (Sub.refl _) (Qt.load (by kernel_rfl) rfl (bytes_at _ _ (by omega))) ?_
    refine RW.q 8 rfl rfl (by kernel_rfl) (Sub.refl _) (Qt.index _ (e := 81) (sz := 6) (by kernel_rfl) rfl rfl rfl (by omega)) ?_
    refine RW.done (by rfl) ?_
    simp only [List.drop_succ_cons, List.drop_zero, List.drop_nil]
    refine LW.q rfl (Qt.assign rfl) ?_
    refine LW.done ?_
    refine T.seq ?_
    refine T.drawAll 12 (by kernel_rfl) (Nat.le_of_ble_eq_true rfl) (by kernel_rfl) ?_
    refine RW.q 0 rfl rfl (by kernel_rfl) (Sub.refl _) (Qt.move rfl) ?_
    refine RW.q 1 rfl rfl (by kernel_rfl) (Sub.refl _) (Qt.move rfl) ?_
    refine RW.q 2 rfl rfl (by kernel_rfl) (Sub.refl _) (Qt.nilCheck rfl) ?_
    refine RW.q 3 rfl rfl (by kernel_rfl) (Sub.refl _) (Qt.fieldAddr (off := 4) (by kernel_rfl) rfl) ?_
    first | refine RW.q 4 rfl rfl (by kernel_rfl) (Sub.refl _) (Qt.load (by kernel_rfl) rfl rfl) ?_ | refine RW.q 4 rfl rfl (by kernel_rfl) (Sub.refl _) (Qt.load (by kernel_rfl) rfl (map_at _ _ _ (by omega))) ?_ | refine RW.q 4 rfl rfl (by kernel_rfl) (Sub.refl _) (Qt.load (by kernel_rfl) rfl (flat_cell0 _ _ _ (by intros; rfl) _ (by omega) (by rfl))) ?_ | refine RW.q 4 rfl rfl (by kernel_rfl) (Sub.refl _) (Qt.load (by kernel_rfl) rfl (flat_cell _ _ _ (by intros; rfl) _ _ (by omega) (by rfl))) ?_ | refine RW.q 4 rfl rfl (by kernel_rfl) (Sub.refl _) (Qt.load (by kernel_rfl) rfl (bytes_at _ _ (by omega))) ?_
    refine RW.q 5 rfl rfl (by kernel_rfl) (Sub.refl _) (Qt.add rfl rfl (wr64 (by omega) (by omega))) ?_
    refine RW.q 6 rfl rfl (by kernel_rfl) (Sub.refl _) (Qt.move rfl) ?_
    refine RW.q 7 rfl rfl (by kernel_rfl) (Sub.refl _) (Qt.nilCheck rfl) ?_
    refine RW.q 8 rfl rfl (by kernel_rfl) (Sub.refl _) (Qt.fieldAddr (off := 3) (by kernel_rfl) rfl) ?_
    first | refine RW.q 9 rfl rfl (by kernel_rfl) (Sub.refl _) (Qt.load (by kernel_rfl) rfl rfl) ?_ | refine RW.q 9 rfl rfl (by kernel_rfl) (Sub.refl _) (Qt.load (by kernel_rfl) rfl (map_at _ _ _ (by omega))) ?_ | refine RW.q 9 rfl rfl (by kernel_rfl) (Sub.refl _) (Qt.load (by kernel_rfl) rfl (flat_cell0 _ _ _ (by intros; rfl) _ (by omega) (by rfl))) ?_ | refine RW.q 9 rfl rfl (by kernel_rfl) (Sub.refl _) (Qt.load (by kernel_rfl) rfl (flat_cell _ _ _ (by intros; rfl) _ _ (by omega) (by rfl))) ?_ | refine RW.q 9 rfl rfl (by kernel_rfl) (Sub.refl _) (Qt.load (by kernel_rfl) rfl (bytes_at _ _ (by omega))) ?_
    refine RW.q 10 rfl rfl (by kernel_rfl) (Sub.refl _) (Qt.len (e := 81) (sz := 6) (by kernel_rfl) rfl) ?_
    refine RW.q 11 rfl rfl (by kernel_rfl) (Sub.refl _) (Qt.rem rfl rfl (by omega) (show (((0 : Nat) : Int) + 1).tmod ((1 : Nat) : Int) = ((0 : Nat) : Int) from rfl)) ?_
    refine RW.done (by rfl) ?_
    simp only [List.drop_succ_cons, List.drop_zero, List.drop_nil]
    refine LW.q rfl (Qt.nilCheck rfl) ?_
    refine LW.q rfl (Qt.fieldAddr (off := 4) (by kernel_rfl) rfl) ?_
    refine LW.e0 rfl (Ef.store1 (by kernel_rfl) rfl rfl rfl (by first | (simp; done) | (simp; omega)) ?_)
    try simp only [List.set_cons_zero, List.set_cons_succ]
    refine LW.done ?_
    refine T.block ?_
    refine T.seq ?_
    refine T.region ?_
    refine LW.q rfl (Qt.move rfl) ?_
    refine LW.q rfl (Qt.nilCheck rfl) ?_
    refine LW.q rfl (Qt.fieldAddr (off := 3) (by kernel_rfl) rfl) ?_
    refine LW.q rfl (Qt.load (v := .int .i64 x.pins) (by kernel_rfl) rfl (fm_at (hat u) 3 (by omega))) ?_
    refine LW.q rfl (Qt.gtr rfl rfl) ?_
    refine LW.q rfl (Qt.assign rfl) ?_
    refine LW.done ?_
    first | refine T.condF rfl ?_ | refine T.condPF rfl (by omega) ?_ | refine T.condBF rfl (by omega) ?_
    refine T.seq ?_
    refine T.region ?_
    refine LW.q rfl (Qt.move rfl) ?_
    refine LW.q rfl (Qt.nilCheck rfl) ?_
    refine LW.q rfl (Qt.fieldAddr (off := 5) (by kernel_rfl) rfl) ?_
    refine LW.q rfl (Qt.load (v := .bool u) (by kernel_rfl) rfl (fm_at (hat u) 5 (by omega))) ?_
    refine LW.q rfl (Qt.assign rfl) ?_
    refine LW.done ?_
    refine T.cond rfl (fun hu => ?_) (fun hu => ?_)
    ·
     subst hu
     obtain rfl : mm = 1 := of_decide_eq_true hmm.symm
     refine T.region ?_
     refine LW.q rfl (Qt.move rfl) ?_
     refine LW.q rfl (Qt.nilCheck rfl) ?_
     refine LW.q rfl (Qt.fieldAddr (off := 5) (by kernel_rfl) rfl) ?_
     refine LW.e0 rfl (Ef.store1 (by kernel_rfl) rfl rfl rfl (by simp) ?_)
     rw [fm_set (y := { x with used := false }) (hat true) 5 (by omega) _ rfl, List.set_cons_zero]
     refine LW.done ?_
     refine ⟨_, ?_, _, ⟨_, 0, false, rfl, rfl, (updS rfl rfl), rfl⟩, Sub.any⟩
     first | omega | (simp; omega)
    ·
     subst hu
     refine T.seq ?_
     refine T.seq ?_
     refine T.region ?_
     refine LW.q rfl (Qt.move rfl) ?_
     refine LW.q rfl (Qt.nilCheck rfl) ?_
     refine LW.q rfl (Qt.fieldAddr (off := 4) (by kernel_rfl) rfl) ?_
     refine LW.q rfl (Qt.load (v := .bool x.dirty) (by kernel_rfl) rfl (fm_at (hat false) 4 (by omega))) ?_
     refine LW.done ?_
     first | refine T.condT rfl ?_ | refine T.condPT rfl (hx3) ?_ | refine T.condBT rfl (hx3) ?_
     refine T.seq ?_
     refine T.region ?_
     refine LW.q rfl (Qt.move rfl) ?_
     refine LW.q rfl (Qt.move rfl) ?_
     refine LW.q rfl (Qt.nilCheck rfl) ?_
     refine LW.q rfl (Qt.fieldAddr (off := 2) (by kernel_rfl) rfl) ?_
     refine LW.q rfl (Qt.load (v := .int .i64 x.mark) (by kernel_rfl) rfl (fm_at (hat false) 2 (by omega))) ?_
     refine LW.e rfl (Ef.call (Bf.force1 B g b gf 1 first count 0 pl cl gl b W x.mark hdur hm) Tryd.func41 rfl rfl rfl ?_)
     rintro _ _ ⟨rfl, rfl⟩
     try simp only [List.cons_append, List.nil_append]
     refine LW.done ?_
     refine T.draw 20 ([poolB g b gf 1 first count 0 pl 1 cl, fmR gf 1 [{ x with used := false }]]) (by kernel_rfl) (Nat.le_of_ble_eq_true rfl) (by kernel_rfl) ?_
     refine RW.q 0 rfl rfl (by kernel_rfl) Sub.any (Qt.move rfl) ?_
     refine RW.q 1 rfl rfl (by kernel_rfl) Sub.any (Qt.nilCheck rfl) ?_
     refine RW.q 2 rfl rfl (by kernel_rfl) Sub.any (Qt.fieldAddr0 (by kernel_rfl) rfl) ?_
     refine RW.q 3 rfl rfl (by kernel_rfl) Sub.any (Qt.fieldAddr0 (by kernel_rfl) rfl) ?_
     first | refine RW.q 4 rfl rfl (by kernel_rfl) Sub.any (Qt.load (by kernel_rfl) rfl rfl) ?_ | refine RW.q 4 rfl rfl (by kernel_rfl) Sub.any (Qt.load (by kernel_rfl) rfl (map_at _ _ _ (by omega))) ?_ | refine RW.q 4 rfl rfl (by kernel_rfl) Sub.any (Qt.load (by kernel_rfl) rfl (flat_cell0 _ _ _ (by intros; rfl) _ (by omega) (by rfl))) ?_ | refine RW.q 4 rfl rfl (by kernel_rfl) Sub.any (Qt.load (by kernel_rfl) rfl (flat_cell _ _ _ (by intros; rfl) _ _ (by omega) (by rfl))) ?_ | refine RW.q 4 rfl rfl (by kernel_rfl) Sub.any (Qt.load (by kernel_rfl) rfl (bytes_at _ _ (by omega))) ?_
     refine RW.q 5 rfl rfl (by kernel_rfl) Sub.any (Qt.move rfl) ?_
     refine RW.q 6 rfl rfl (by kernel_rfl) Sub.any (Qt.nilCheck rfl) ?_
     refine RW.q 7 rfl rfl (by kernel_rfl) Sub.any (Qt.fieldAddr0 (by kernel_rfl) rfl) ?_
     refine RW.q 8 rfl rfl (by kernel_rfl) Sub.any (Qt.fieldAddr (off := 1) (by kernel_rfl) rfl) ?_
     first | refine RW.q 9 rfl rfl (by kernel_rfl) Sub.any (Qt.load (by kernel_rfl) rfl rfl) ?_ | refine RW.q 9 rfl rfl (by kernel_rfl) Sub.any (Qt.load (by kernel_rfl) rfl (map_at _ _ _ (by omega))) ?_ | refine RW.q 9 rfl rfl (by kernel_rfl) Sub.any (Qt.load (by kernel_rfl) rfl (flat_cell0 _ _ _ (by intros; rfl) _ (by omega) (by rfl))) ?_ | refine RW.q 9 rfl rfl (by kernel_rfl) Sub.any (Qt.load (by kernel_rfl) rfl (flat_cell _ _ _ (by intros; rfl) _ _ (by omega) (by rfl))) ?_ | refine RW.q 9 rfl rfl (by kernel_rfl) Sub.any (Qt.load (by kernel_rfl) rfl (bytes_at _ _ (by omega))) ?_
     refine RW.q 10 rfl rfl (by kernel_rfl) Sub.any (Qt.move rfl) ?_
     refine RW.q 11 rfl rfl (by kernel_rfl) Sub.any (Qt.nilCheck rfl) ?_
     refine RW.q 12 rfl rfl (by kernel_rfl) Sub.any (Qt.fieldAddr0 (by kernel_rfl) rfl) ?_
     refine RW.q 13 rfl rfl (by kernel_rfl) Sub.any (Qt.load (v := .int .i64 x.page) (by kernel_rfl) rfl (fm_at (hat false) 0 (by omega))) ?_
     refine RW.q 14 rfl rfl (by kernel_rfl) Sub.any (Qt.add rfl rfl (wr64 (by omega) (by omega))) ?_
     refine RW.q 15 rfl rfl (by kernel_rfl) Sub.any (Qt.move rfl) ?_
     refine RW.q 16 rfl rfl (by kernel_rfl) Sub.any (Qt.nilCheck rfl) ?_
     refine RW.q 17 rfl rfl (by kernel_rfl) Sub.any (Qt.fieldAddr (off := 1) (by kernel_rfl) rfl) ?_
     refine RW.q 18 rfl rfl (by kernel_rfl) Sub.any (Qt.load (v := .slice (some ⟨gx, 0, none⟩) 256 x.c) (by kernel_rfl) rfl (by simp [hgx, hx4])) ?_
     refine RW.one 19 (by kernel_rfl) ?_
     refine RO.eS rfl rfl (Ef.call (Dk.writeF B b D (rB (.slice (some ⟨gx, 0, none⟩) 256 x.c) 256 x.b) gx 0 x.c (first + j) _ (by omega) x.b (row_bytes (p := none)) hsec hx4 hroom) Tryd.func42 rfl rfl rfl ?_)
     rintro _ _ ⟨rfl, rfl⟩
     try simp only [List.cons_append, List.nil_append]
     refine ⟨Sub.any, ?_⟩
     refine RW.done (by rfl) ?_
     simp only [List.drop_succ_cons, List.drop_zero, List.drop_nil]
     refine LW.done ?_
     refine T.seq ?_
     refine T.region ?_
     refine LW.q rfl (Qt.move rfl) ?_
     refine LW.q rfl (Qt.assign rfl) ?_
     refine LW.done ?_
     refine T.ret ?_
     exact ⟨.inl rfl, _, _, res [_] rfl ⟨rvT rfl, trivial⟩, ⟨rfl, rfl⟩, Sub.any⟩

/-- Pin where the page is in no frame, by what victim answers. -/
abbrev fmNew (page : Int) (p : Option Addr) (c : Nat) (b : List UInt8) : Fm := ⟨page, 0, 1, false, true, p, c, b⟩
set_option maxHeartbeats 2000000 in
set_option maxRecDepth 100000 in
theorem Bf.pin_range (B : Base) (g b gf n first count hand : Nat) (pl : Option Addr) (nl cl : Nat) (page : Int) (h : page < 0 ∨ (count : Int) ≤ page) :
  Fn Tryd.prog B 15 #[.pointer (some ⟨g, 0, none⟩), .int .i64 page] [poolB g b gf n first count hand pl nl cl] (fun u l => u = .int .i64 1 ∧ l = [poolB g b gf n first count hand pl nl cl]) := by
 refine Fn.enter2 59 Tryd.func15 rfl rfl (Nat.le_of_ble_eq_true rfl) (fun F => ?_)
 try simp only [List.cons_append, List.nil_append]
 refine T.seq ?_
 refine T.region ?_
 refine LW.q rfl (Qt.assign rfl) ?_
 refine LW.done ?_
 refine T.seq ?_
 refine T.seq ?_
 refine T.region ?_
 refine LW.q rfl (Qt.move rfl) ?_
 refine LW.q rfl (Qt.lss rfl rfl) ?_
 refine LW.q rfl (Qt.move rfl) ?_
 refine LW.split (t := 10) rfl (fun h1 => ?_) (fun h1 => ?_)
 ·
  try replace h1 := of_decide_eq_true h1
  refine LW.s rfl ?_
  refine LW.s rfl ?_
  refine LW.s rfl ?_
  refine LW.s rfl ?_
  refine LW.s rfl ?_
  refine LW.s rfl ?_
  refine LW.s rfl ?_
  refine LW.q rfl (Qt.pick rfl rfl) ?_
  refine LW.done ?_
  first | refine T.condT rfl ?_ | refine T.condPT rfl (by omega) ?_ | refine T.condBT rfl (by omega) ?_
  refine T.seq ?_
  refine T.region ?_
  refine LW.q rfl (Qt.assign rfl) ?_
  refine LW.done ?_
  refine T.ret ?_
  exact ⟨.inl rfl, _, _, res [_] rfl ⟨rvT rfl, trivial⟩, ⟨rfl, rfl⟩, Sub.any⟩
 ·
  try replace h1 := of_decide_eq_false h1
  refine LW.q rfl (Qt.move rfl) ?_
  refine LW.q rfl (Qt.move rfl) ?_
  refine LW.q rfl (Qt.nilCheck rfl) ?_
  refine LW.q rfl (Qt.fieldAddr0 (by kernel_rfl) rfl) ?_
  refine LW.q rfl (Qt.fieldAddr (off := 2) (by kernel_rfl) rfl) ?_
  first | refine LW.q rfl (Qt.load (by kernel_rfl) rfl rfl) ?_ | refine LW.q rfl (Qt.load (by kernel_rfl) rfl (map_at _ _ _ (by omega))) ?_ | refine LW.q rfl (Qt.load (by kernel_rfl) rfl (flat_cell0 _ _ _ (by intros; rfl) _ (by omega) (by rfl))) ?_ | refine LW.q rfl (Qt.load (by kernel_rfl) rfl (flat_cell _ _ _ (by intros; rfl) _ _ (by omega) (by rfl))) ?_ | refine LW.q rfl (Qt.load (by kernel_rfl) rfl (bytes_at _ _ (by omega))) ?_
  refine LW.q rfl (Qt.geq rfl rfl) ?_
  refine LW.q rfl (Qt.pick rfl rfl) ?_
  refine LW.done ?_
  first | refine T.condT rfl ?_ | refine T.condPT rfl (by omega) ?_ | refine T.condBT rfl (by omega) ?_
  refine T.seq ?_
  refine T.region ?_
  refine LW.q rfl (Qt.assign rfl) ?_
  refine LW.done ?_
  refine T.ret ?_
  exact ⟨.inl rfl, _, _, res [_] rfl ⟨rvT rfl, trivial⟩, ⟨rfl, rfl⟩, Sub.any⟩
set_option maxHeartbeats 2000000 in
set_option maxRecDepth 100000 in
theorem Bf.pin_full (B : Base) (g b gf n first count hand : Nat) (pl : Option Addr) (nl cl : Nat) (Fs : List Fm) (page : Int) (h0 : 0 ≤ page) (hc : page < count) (hn : Fs.length = n) (hn2 : n ≤ 4096) (hno : ∀ (j : Nat) (y : Fm), Fs[j]? = some y → y.page ≠ page) (hall : ∀ (j : Nat) (y : Fm), Fs[j]? = some y → 0 ≤ y.page ∧ 0 < y.pins) :
    Fn Tryd.prog B 15 #[.pointer (some ⟨g, 0, none⟩), .int .i64 page] [poolB g b gf n first count hand pl nl cl, fmR gf n Fs] (fun u l => u = .int .i64 60 ∧ l = [poolB g b gf n first count hand pl nl cl, fmR gf n Fs]) := by
  refine Fn.enter2 59 Tryd.func15 rfl rfl (Nat.le_of_ble_eq_true rfl) (fun F => ?_)
  try simp only [List.cons_append, List.nil_append]
  refine T.seq ?_
  refine T.region ?_
  refine LW.q rfl (Qt.assign rfl) ?_
  refine LW.done ?_
  refine T.seq ?_
  refine T.seq ?_
  refine T.region ?_
  refine LW.q rfl (Qt.move rfl) ?_
  refine LW.q rfl (Qt.lss rfl rfl) ?_
  refine LW.q rfl (Qt.move rfl) ?_
  first | refine LW.gF (t := 10) rfl rfl ?_ | refine LW.gF (t := 10) rfl (decide_eq_false (by omega)) ?_ | refine LW.gF (t := 10) rfl (by omega) ?_
  refine LW.q rfl (Qt.move rfl) ?_
  refine LW.q rfl (Qt.move rfl) ?_
  refine LW.q rfl (Qt.nilCheck rfl) ?_
  refine LW.q rfl (Qt.fieldAddr0 (by kernel_rfl) rfl) ?_
  refine LW.q rfl (Qt.fieldAddr (off := 2) (by kernel_rfl) rfl) ?_
  first | refine LW.q rfl (Qt.load (by kernel_rfl) rfl rfl) ?_ | refine LW.q rfl (Qt.load (by kernel_rfl) rfl (map_at _ _ _ (by omega))) ?_ | refine LW.q rfl (Qt.load (by kernel_rfl) rfl (flat_cell0 _ _ _ (by intros; rfl) _ (by omega) (by rfl))) ?_ | refine LW.q rfl (Qt.load (by kernel_rfl) rfl (flat_cell _ _ _ (by intros; rfl) _ _ (by omega) (by rfl))) ?_ | refine LW.q rfl (Qt.load (by kernel_rfl) rfl (bytes_at _ _ (by omega))) ?_
  refine LW.q rfl (Qt.geq rfl rfl) ?_
  refine LW.q rfl (Qt.pick rfl rfl) ?_
  refine LW.done ?_
  first | refine T.condF rfl ?_ | refine T.condPF rfl (by omega) ?_ | refine T.condBF rfl (by omega) ?_
  refine T.skip ?_
  refine T.seq ?_
  refine T.region ?_
  refine LW.q rfl (Qt.move rfl) ?_
  refine LW.q rfl (Qt.move rfl) ?_
  refine LW.e rfl (Ef.call (Bf.find_none B g b gf n first count hand pl nl cl Fs page hn hn2 (fun j y hj e => absurd e (hno j y hj))) Tryd.func34 rfl rfl rfl ?_)
  rintro _ _ ⟨rfl, rfl⟩
  try simp only [List.cons_append, List.nil_append]
  refine LW.q rfl (Qt.assign rfl) ?_
  refine LW.done ?_
  refine T.seq ?_
  refine T.seq ?_
  refine T.region ?_
  refine LW.q rfl (Qt.move rfl) ?_
  first | refine LW.q rfl (Qt.eqlNil (by kernel_rfl) rfl rfl) ?_ | refine LW.q rfl (Qt.eqlNN (by kernel_rfl) rfl rfl) ?_
  refine LW.done ?_
  first | refine T.condT rfl ?_ | refine T.condPT rfl (by omega) ?_ | refine T.condBT rfl (by omega) ?_
  refine T.seq ?_
  refine T.region ?_
  refine LW.q rfl (Qt.move rfl) ?_
  refine LW.e rfl (Ef.call (Bf.victim_full B g b gf n first count hand pl nl cl Fs hn hn2 hall) Tryd.func35 rfl rfl rfl ?_)
  rintro _ _ ⟨rfl, rfl⟩
  try simp only [List.cons_append, List.nil_append]
  refine LW.q rfl (Qt.assign rfl) ?_
  refine LW.done ?_
  refine T.seq ?_
  refine T.seq ?_
  refine T.region ?_
  refine LW.q rfl (Qt.move rfl) ?_
  first | refine LW.q rfl (Qt.eqlNil (by kernel_rfl) rfl rfl) ?_ | refine LW.q rfl (Qt.eqlNN (by kernel_rfl) rfl rfl) ?_
  refine LW.done ?_
  first | refine T.condT rfl ?_ | refine T.condPT rfl (by omega) ?_ | refine T.condBT rfl (by omega) ?_
  refine T.seq ?_
  refine T.region ?_
  refine LW.q rfl (Qt.assign rfl) ?_
  refine LW.done ?_
  refine T.ret ?_
  exact ⟨.inl rfl, _, _, res [_] rfl ⟨rvT rfl, trivial⟩, ⟨rfl, rfl⟩, Sub.any⟩
set_option maxHeartbeats 4000000 in
set_option maxRecDepth 100000 in
theorem Bf.pin_free (B : Base) (g b gf n first count hand : Nat) (pl : Option Addr) (nl cl : Nat) (Fs : List Fm) (D : DD) (page : Int) (j : Nat) (hj : page = j) (hc : j < count) (hn : Fs.length = n) (hn2 : n ≤ 4096) (hno : ∀ (k : Nat) (y : Fm), Fs[k]? = some y → y.page ≠ page) (i : Nat) (x : Fm) (hx : Fs[i]? = some x) (hp : x.page < 0) (hfirst : ∀ (k : Nat), k < i → ∀ y : Fm, Fs[k]? = some y → 0 ≤ y.page) (hsec : first + count ≤ D.secs.length) (hmx : D.secs.length ≤ 4096) (hroom : D.pend.length < 2 ^ 32) (hrl : (D.read (first + j)).length = 256) :
    Fn Tryd.prog B 15 #[.pointer (some ⟨g, 0, none⟩), .int .i64 page] [poolB g b gf n first count hand pl nl cl, fmR gf n Fs, dskA b D] (fun u l => ∃ gx c, u = .int .i64 0 ∧ l = [rB (.slice (some ⟨gx, 0, none⟩) 256 c) 256 (D.read (first + j)), poolB g b gf n first count hand pl nl cl, fmR gf n (Fs.set i (fmNew page (some ⟨gx, 0, none⟩) c (D.read (first + j)))), dskA b D]) := by
  have hi : i < Fs.length := (List.getElem?_eq_some_iff.1 hx).1
  have hfl := fm_len Fs
  refine Fn.enter2 59 Tryd.func15 rfl rfl (Nat.le_of_ble_eq_true rfl) (fun F => ?_)
  try simp only [List.cons_append, List.nil_append]
  refine T.seq ?_
  refine T.region ?_
  refine LW.q rfl (Qt.assign rfl) ?_
  refine LW.done ?_
  refine T.seq ?_
  refine T.seq ?_
  refine T.region ?_
  refine LW.q rfl (Qt.move rfl) ?_
  refine LW.q rfl (Qt.lss rfl rfl) ?_
  refine LW.q rfl (Qt.move rfl) ?_
  first | refine LW.gF (t := 10) rfl rfl ?_ | refine LW.gF (t := 10) rfl (decide_eq_false (by omega)) ?_ | refine LW.gF (t := 10) rfl (by omega) ?_
  refine LW.q rfl (Qt.move rfl) ?_
  refine LW.q rfl (Qt.move rfl) ?_
  refine LW.q rfl (Qt.nilCheck rfl) ?_
  refine LW.q rfl (Qt.fieldAddr0 (by kernel_rfl) rfl) ?_
  refine LW.q rfl (Qt.fieldAddr (off := 2) (by kernel_rfl) rfl) ?_
  first | refine LW.q rfl (Qt.load (by kernel_rfl) rfl rfl) ?_ | refine LW.q rfl (Qt.load (by kernel_rfl) rfl (map_at _ _ _ (by omega))) ?_ | refine LW.q rfl (Qt.load (by kernel_rfl) rfl (flat_cell0 _ _ _ (by intros; rfl) _ (by omega) (by rfl))) ?_ | refine LW.q rfl (Qt.load (by kernel_rfl) rfl (flat_cell _ _ _ (by intros; rfl) _ _ (by omega) (by rfl))) ?_ | refine LW.q rfl (Qt.load (by kernel_rfl) rfl (bytes_at _ _ (by omega))) ?_
  refine LW.q rfl (Qt.geq rfl rfl) ?_
  refine LW.q rfl (Qt.pick rfl rfl) ?_
  refine LW.done ?_
  first | refine T.condF rfl ?_ | refine T.condPF rfl (by omega) ?_ | refine T.condBF rfl (by omega) ?_
  refine T.skip ?_
  refine T.seq ?_
  refine T.region ?_
  refine LW.q rfl (Qt.move rfl) ?_
  refine LW.q rfl (Qt.move rfl) ?_
  refine LW.e rfl (Ef.call (Bf.find_none B g b gf n first count hand pl nl cl Fs page hn hn2 (fun j y hj e => absurd e (hno j y hj))) Tryd.func34 rfl rfl rfl ?_)
  rintro _ _ ⟨rfl, rfl⟩
  try simp only [List.cons_append, List.nil_append]
  refine LW.q rfl (Qt.assign rfl) ?_
  refine LW.done ?_
  refine T.seq ?_
  refine T.seq ?_
  refine T.region ?_
  refine LW.q rfl (Qt.move rfl) ?_
  first | refine LW.q rfl (Qt.eqlNil (by kernel_rfl) rfl rfl) ?_ | refine LW.q rfl (Qt.eqlNN (by kernel_rfl) rfl rfl) ?_
  refine LW.done ?_
  first | refine T.condT rfl ?_ | refine T.condPT rfl (by omega) ?_ | refine T.condBT rfl (by omega) ?_
  refine T.seq ?_
  refine T.region ?_
  refine LW.q rfl (Qt.move rfl) ?_
  refine LW.e rfl (Ef.call (Bf.victim_free B g b gf n first count hand pl nl cl Fs i x hn hn2 hx hp hfirst) Tryd.func35 rfl rfl rfl ?_)
  rintro _ _ ⟨rfl, rfl⟩
  try simp only [List.cons_append, List.nil_append]
  refine LW.q rfl (Qt.assign rfl) ?_
  refine LW.done ?_
  refine T.seq ?_
  refine T.seq ?_
  refine T.region ?_
  refine LW.q rfl (Qt.move rfl) ?_
  first | refine LW.q rfl (Qt.eqlNil (by kernel_rfl) rfl rfl) ?_ | refine LW.q rfl (Qt.eqlNN (by kernel_rfl) rfl rfl) ?_
  refine LW.done ?_
  first | refine T.condF rfl ?_ | refine T.condPF rfl (by omega) ?_ | refine T.condBF rfl (by omega) ?_
  refine T.skip ?_
  refine T.seq ?_
  refine T.drawBl 17 none (by kernel_rfl) (Nat.le_of_ble_eq_true rfl) (by kernel_rfl) ?_
  refine RW.q 0 rfl rfl (by kernel_rfl) Sub.any (Qt.move rfl) ?_
  refine RW.q 1 rfl rfl (by kernel_rfl) Sub.any (Qt.nilCheck rfl) ?_
  refine RW.q 2 rfl rfl (by kernel_rfl) Sub.any (Qt.fieldAddr0 (by kernel_rfl) rfl) ?_
  refine RW.q 3 rfl rfl (by kernel_rfl) Sub.any (Qt.fieldAddr0 (by kernel_rfl) rfl) ?_
  first | refine RW.q 4 rfl rfl (by kernel_rfl) Sub.any (Qt.load (by kernel_rfl) rfl rfl) ?_ | refine RW.q 4 rfl rfl (by kernel_rfl) Sub.any (Qt.load (by kernel_rfl) rfl (map_at _ _ _ (by omega))) ?_ | refine RW.q 4 rfl rfl (by kernel_rfl) Sub.any (Qt.load (by kernel_rfl) rfl (flat_cell0 _ _ _ (by intros; rfl) _ (by omega) (by rfl))) ?_ | refine RW.q 4 rfl rfl (by kernel_rfl) Sub.any (Qt.load (by kernel_rfl) rfl (flat_cell _ _ _ (by intros; rfl) _ _ (by omega) (by rfl))) ?_ | refine RW.q 4 rfl rfl (by kernel_rfl) Sub.any (Qt.load (by kernel_rfl) rfl (bytes_at _ _ (by omega))) ?_
  refine RW.q 5 rfl rfl (by kernel_rfl) Sub.any (Qt.move rfl) ?_
  refine RW.q 6 rfl rfl (by kernel_rfl) Sub.any (Qt.nilCheck rfl) ?_
  refine RW.q 7 rfl rfl (by kernel_rfl) Sub.any (Qt.fieldAddr0 (by kernel_rfl) rfl) ?_
  refine RW.q 8 rfl rfl (by kernel_rfl) Sub.any (Qt.fieldAddr (off := 1) (by kernel_rfl) rfl) ?_
  first | refine RW.q 9 rfl rfl (by kernel_rfl) Sub.any (Qt.load (by kernel_rfl) rfl rfl) ?_ | refine RW.q 9 rfl rfl (by kernel_rfl) Sub.any (Qt.load (by kernel_rfl) rfl (map_at _ _ _ (by omega))) ?_ | refine RW.q 9 rfl rfl (by kernel_rfl) Sub.any (Qt.load (by kernel_rfl) rfl (flat_cell0 _ _ _ (by intros; rfl) _ (by omega) (by rfl))) ?_ | refine RW.q 9 rfl rfl (by kernel_rfl) Sub.any (Qt.load (by kernel_rfl) rfl (flat_cell _ _ _ (by intros; rfl) _ _ (by omega) (by rfl))) ?_ | refine RW.q 9 rfl rfl (by kernel_rfl) Sub.any (Qt.load (by kernel_rfl) rfl (bytes_at _ _ (by omega))) ?_
  refine RW.q 10 rfl rfl (by kernel_rfl) Sub.any (Qt.move rfl) ?_
  refine RW.q 11 rfl rfl (by kernel_rfl) Sub.any (Qt.add rfl rfl (wr64 (by omega) (by omega))) ?_
  refine RW.one 12 (by kernel_rfl) ?_
  refine RO.eS rfl rfl (Ef.call (Dk.readF B b D (first + j) _ (by omega) (by omega) hroom) Tryd.func19 rfl rfl rfl ?_)
  rintro _ _ ⟨gx, cx, rfl, rfl⟩
  try simp only [List.cons_append, List.nil_append]
  obtain ⟨dat, hdat⟩ : ∃ dat, D.read (first + j) = dat := ⟨_, rfl⟩
  rw [hdat] at hrl
  rw [hdat]
  refine ⟨Sub.any, ?_⟩
  refine RW.q 13 rfl rfl (by kernel_rfl) Sub.any (Qt.move rfl) ?_
  refine RW.q 14 rfl rfl (by kernel_rfl) Sub.any (Qt.extract rfl rfl) ?_
  refine RW.q 15 rfl rfl (by kernel_rfl) Sub.any (Qt.extract rfl rfl) ?_
  refine RW.q 16 rfl rfl (by kernel_rfl) Sub.any (Qt.assign rfl) ?_
  refine RW.done (by rfl) ?_
  simp only [List.drop_succ_cons, List.drop_zero, List.drop_nil]
  refine LW.q rfl (Qt.assign rfl) ?_
  refine LW.done ?_
  refine T.region ?_
  refine LW.q rfl (Qt.move rfl) ?_
  refine LW.q rfl (Qt.move rfl) ?_
  refine LW.q rfl (Qt.move rfl) ?_
  refine LW.q rfl (Qt.build [(0, 1), (1, 1), (2, 1), (3, 1), (4, 1), (5, 1)] [.int .i64 0, .slice none 0 0, .int .i64 0, .int .i64 0, .bool false, .bool false] [_, _, _, _, _, _] [(0, _), (1, _)] (by kernel_rfl) (by unfold zeroB; kernel_rfl) rfl rfl) ?_
  refine LW.q rfl (Qt.nilCheck rfl) ?_
  refine LW.e0 rfl (Ef.store (fmC ⟨page, 0, 0, false, false, some ⟨gx, 0, none⟩, cx, dat⟩) (by kernel_rfl) rfl rfl (by simp only [fmC, hrl]; rfl) rfl (by simp only [List.length_cons, List.length_nil]; omega) ?_)
  rw [fm_splice hi]
  have h2 : (Fs.set i ⟨page, 0, 0, false, false, some ⟨gx, 0, none⟩, cx, dat⟩)[i]? = some ⟨page, 0, 0, false, false, some ⟨gx, 0, none⟩, cx, dat⟩ := by rw [List.getElem?_set_self hi]
  have hfl2 := fm_len (Fs.set i ⟨page, 0, 0, false, false, some ⟨gx, 0, none⟩, cx, dat⟩)
  rw [List.length_set] at hfl2
  refine LW.done ?_
  refine T.seq ?_
  refine T.region ?_
  refine LW.q rfl (Qt.move rfl) ?_
  refine LW.q rfl (Qt.nilCheck rfl) ?_
  refine LW.q rfl (Qt.fieldAddr (off := 3) (by kernel_rfl) rfl) ?_
  refine LW.q rfl (Qt.load (v := .int .i64 0) (by kernel_rfl) rfl (fm_at h2 3 (by omega))) ?_
  refine LW.q rfl (Qt.add rfl rfl (wr64 (by omega) (by omega))) ?_
  refine LW.q rfl (Qt.nilCheck rfl) ?_
  refine LW.q rfl (Qt.fieldAddr (off := 3) (by kernel_rfl) rfl) ?_
  refine LW.e0 rfl (Ef.store1 (by kernel_rfl) rfl rfl rfl (by omega) ?_)
  rw [fm_set (y := ⟨page, 0, 1, false, false, some ⟨gx, 0, none⟩, cx, dat⟩) h2 3 (by omega) (.int .i64 (0 + 1)) rfl, List.set_set]
  have h3 : (Fs.set i ⟨page, 0, 1, false, false, some ⟨gx, 0, none⟩, cx, dat⟩)[i]? = some ⟨page, 0, 1, false, false, some ⟨gx, 0, none⟩, cx, dat⟩ := by rw [List.getElem?_set_self hi]
  have hfl3 := fm_len (Fs.set i ⟨page, 0, 1, false, false, some ⟨gx, 0, none⟩, cx, dat⟩)
  rw [List.length_set] at hfl3
  refine LW.done ?_
  refine T.seq ?_
  refine T.region ?_
  refine LW.q rfl (Qt.move rfl) ?_
  refine LW.q rfl (Qt.nilCheck rfl) ?_
  refine LW.q rfl (Qt.fieldAddr (off := 5) (by kernel_rfl) rfl) ?_
  refine LW.e0 rfl (Ef.store1 (by kernel_rfl) rfl rfl rfl (by omega) ?_)
  rw [fm_set (y := fmNew page (some ⟨gx, 0, none⟩) cx dat) h3 5 (by omega) _ rfl, List.set_set]
  refine LW.done ?_
  refine T.seq ?_
  refine T.region ?_
  refine LW.q rfl (Qt.assign rfl) ?_
  refine LW.done ?_
  refine T.ret ?_
  exact ⟨.inl rfl, _, _, res [_] rfl ⟨rvT rfl, trivial⟩, ⟨gx, cx, rfl, rfl⟩, Sub.any⟩
end Go.Proofs.YtegohgaccmkigaaDoor

/- What a pool does, as plain functions on lists of frames; a pool's memory as one assertion. Conditions: none. -/
set_option linter.unusedSimpArgs false
set_option linter.unusedVariables false
namespace Go.Proofs.YtegohgaccmkigaaDoor
open Go.RowKit

structure Fa where
  page : Int
  mark : Int
  pins : Int
  dirty : Bool
  used : Bool
  b : List UInt8
abbrev fa1 : Fa := ⟨-1, 0, 0, false, false, []⟩
def Fm.a (x : Fm) : Fa := ⟨x.page, x.mark, x.pins, x.dirty, x.used, x.b⟩
structure Pl where
  A : List Fa
  hand : Nat
  W : Wl
  D : DD

def findA (A : List Fa) (page : Int) : Option Nat := if page < 0 then none else A.findIdx? fun x => decide (x.page = page)
def upA (x : Fa) : Fa := { x with pins := x.pins + 1, used := true }
/-- The hand goes round: the frame that gives way, the frames and the hand then. -/
def clockA : Nat → List Fa → Nat → Option (Nat × List Fa × Nat)
  | 0, _, _ => none
  | f + 1, A, h => match A[h]? with
    | none => none
    | some x => if 0 < x.pins then clockA f A ((h + 1) % A.length) else if x.used = true then clockA f (A.set h { x with used := false }) ((h + 1) % A.length) else some (h, A, (h + 1) % A.length)
def forceP (W : Wl) (D : DD) (mark : Int) : Wl × DD := if mark ≤ W.dur then (W, D) else (W.flushed, flushE W D)
/-- A frame is written. -/
def giveP (first : Nat) (W : Wl) (D : DD) (x : Fa) : Wl × DD := if x.dirty = true then ((forceP W D x.mark).1, (forceP W D x.mark).2.write (first + x.page.toNat) x.b) else (W, D)
def victimP (first : Nat) (s : Pl) : Option (Nat × Pl) := match s.A.findIdx? fun x => decide (x.page < 0) with
  | some i => some (i, s)
  | none => if (s.A.all fun x => decide (0 < x.pins)) = true then none else match clockA (2 * s.A.length + 1) s.A s.hand with
    | none => none
    | some (i, A', h') => match A'[i]? with
      | none => none
      | some x => some (i, ⟨A', h', (giveP first s.W s.D x).1, (giveP first s.W s.D x).2⟩)
def newA (page : Int) (b : List UInt8) : Fa := ⟨page, 0, 1, false, true, b⟩
def pinP (first count : Nat) (s : Pl) (page : Int) : Pl × Int := if page < 0 ∨ (count : Int) ≤ page then (s, 1) else match findA s.A page with
  | some i => match s.A[i]? with
    | none => (s, 1)
    | some x => ({ s with A := s.A.set i (upA x) }, 0)
  | none => match victimP first s with
    | none => (s, 60)
    | some (i, s') => ({ s' with A := s'.A.set i (newA page (s'.D.read (first + page.toNat))) }, 0)
def pinnedA (A : List Fa) (page : Int) : Option (Nat × Fa) := match findA A page with
  | none => none
  | some i => match A[i]? with
    | none => none
    | some x => if 0 < x.pins then some (i, x) else none
def unpinA (A : List Fa) (page : Int) : List Fa × Int := match pinnedA A page with
  | none => (A, 61)
  | some (i, x) => (A.set i { x with pins := x.pins - 1 }, 0)
def putA (A : List Fa) (page : Int) (d : List UInt8) (mark : Int) : List Fa × Int := match pinnedA A page with
  | none => (A, 61)
  | some (i, x) => if d.length ≠ 256 then (A, 10) else (A.set i { x with mark := max x.mark mark, dirty := true, b := d }, 0)
def dirtyMark (A : List Fa) : Int := A.foldl (fun m x => if x.dirty = true then max m x.mark else m) 0
def writesP : DD → List (Nat × List UInt8) → DD
  | D, [] => D
  | D, p :: L => writesP (D.write p.1 p.2) L
/-- The changed pages: their sectors and bytes. -/
def dirtyL (first : Nat) (A : List Fa) : List (Nat × List UInt8) := A.filterMap fun x => if x.dirty = true then some (first + x.page.toNat, x.b) else none
def cleanA (A : List Fa) : List Fa := A.map fun x => { x with dirty := false }
def flushP (first : Nat) (s : Pl) : Pl := ⟨cleanA s.A, s.hand, (forceP s.W s.D (dirtyMark s.A)).1, (writesP (forceP s.W s.D (dirtyMark s.A)).2 (dirtyL first s.A)).sync⟩

/-- The frames are in order. -/
structure FOk (count n : Nat) (A : List Fa) : Prop where
  len : A.length = n
  n1 : 1 ≤ n
  n2 : n ≤ 4096
  fr : ∀ x ∈ A, x = fa1 ∨ (0 ≤ x.page ∧ x.page < count ∧ x.b.length = 256 ∧ 0 ≤ x.pins)
  mrk : ∀ x ∈ A, -(2 ^ 63) ≤ x.mark ∧ x.mark < 2 ^ 63
  one : ∀ (i j : Nat) (x y : Fa), A[i]? = some x → A[j]? = some y → x.page = y.page → 0 ≤ x.page → i = j

/-! memory -/
abbrev fmD (x : Fm) : Assn := rB (.slice x.p x.b.length x.c) x.b.length x.b
def daA (Fs : List Fm) : Assn := sepL (Fs.map fmD)
abbrev ifW (gl : Nat) : Value := .iface 44 (.pointer (some ⟨gl, 0, none⟩))
structure Pg3 where
  Fs : List Fm
  gf : Nat
  pl : Option Addr
  cl : Nat
abbrev plC (g b n first count hand gl : Nat) (q : Pg3) : List Assn := [poolB g b q.gf n first count hand q.pl 1 q.cl, fmR q.gf n q.Fs, lgR q.pl 1 q.cl [ifW gl], daA q.Fs]
/-- A pool over the disk at b, with the log at gl. -/
def plA (g b n first count hand gl : Nat) (A : List Fa) : Assn := exA fun q : Pg3 => sepL (pu (q.Fs.map Fm.a = A) :: plC g b n first count hand gl q)

theorem daA_at {Fs : List Fm} {i : Nat} {x : Fm} (h : Fs[i]? = some x) {k : Piece} (H : daA Fs k) : fmD x k := by
  have : ∀ (L : List Assn) (i : Nat) (A : Assn), L[i]? = some A → (∀ a b : Piece, Piece.le a b → A a → A b) → ∀ k, Has L k → A k := by
    intro L
    induction L with
    | nil => intro i A hi; simp at hi
    | cons C L ih =>
      intro i A hi hm k ⟨h1, h2, _, a1, a2, e1, e2⟩
      cases i with
      | zero => simp at hi; subst hi; exact hm _ _ a1 e1
      | succ i => exact hm _ _ a2 (ih i A (by simpa using hi) hm _ e2)
  refine this _ i (fmD x) (by simp [h]) ?_ k H
  intro a b hab ⟨e1, e2⟩
  refine ⟨e1, e2.imp id ?_⟩
  rintro ⟨g, cap, cur, q1, q2, q3⟩
  exact ⟨g, cap, cur, q1, hab.p _ _ q2, q3⟩
theorem Own.daAt {B : Base} {w : World} {l r : List Assn} {Fs : List Fm} {i : Nat} {x : Fm} (H : Own B w l) [k : TakeA (daA Fs) l r] (h : Fs[i]? = some x) : Own B w [fmD x] := H.map fun _ hk => by
  obtain ⟨h1, _, _, a, _, e, _⟩ := k.take _ hk
  refine ⟨h1, fun _ => none, ⟨fun _ => .inr rfl⟩, a, ⟨fun _ _ e => by cases e⟩, daA_at h e, trivial⟩
theorem Own.daPtr {B : Base} {w : World} {l r : List Assn} {Fs : List Fm} (H : Own B w l) [k : TakeA (daA Fs) l r] : ∀ (i : Nat) (x : Fm), Fs[i]? = some x → 0 < x.b.length → ∃ g, x.p = some ⟨g, 0, none⟩ := fun i x h h0 => by
  have := H.daAt (k := k) h
  exact (this.slice_at (p := x.p) (m := x.b.length) (c := x.c)).2.1 h0
theorem RdV.da {B : Base} {S r : List Assn} {Fs : List Fm} [k : TakeA (daA Fs) S r] {i : Nat} {x : Fm} (h : Fs[i]? = some x) (hp : 0 < x.b.length → ∃ g, x.p = some ⟨g, 0, none⟩) : RdV B S (.slice x.p x.b.length x.c) (bytesV x.b) :=
  RdV.ofRow (fun w ho => (ho.daAt (k := k) h).row_owns) (by simp) (by simpa using hp)
theorem da_same {Fs : List Fm} {i : Nat} {x y : Fm} (h : Fs[i]? = some x) (hp : y.p = x.p) (hc : y.c = x.c) (hb : y.b = x.b) : daA (Fs.set i y) = daA Fs := by
  have : (Fs.set i y).map fmD = Fs.map fmD := by
    apply List.ext_getElem?
    intro j
    rw [List.map_set, List.getElem?_set]
    split
    · rename_i e; subst e
      have hlt := (List.getElem?_eq_some_iff.1 h).1
      rw [List.getElem?_map, h, List.length_map, if_pos hlt]
      simp [fmD, hp, hc, hb]
    · rfl
  unfold daA
  rw [this]
theorem da_put {Fs : List Fm} {i : Nat} {y : Fm} (hi : i < Fs.length) {l : List Assn} : Sub (fmD y :: daA Fs :: l) (daA (Fs.set i y) :: l) := fun h H => by
  have key : ∀ (L : List Assn) (i : Nat) (A : Assn), i < L.length → ∀ h, Has (A :: L) h → Has (L.set i A) h := by
    intro L
    induction L with
    | nil => intro i A hi; simp at hi
    | cons C L ih =>
      intro i A hi h H
      cases i with
      | zero => exact Has.tail (Has.swap H)
      | succ i =>
        obtain ⟨h1, h2, d, a1, a2, e1, e2⟩ := Has.swap H
        exact ⟨h1, h2, d, a1, a2, e1, ih i A (by simpa using hi) _ e2⟩
  obtain ⟨h1, h2, d, a1, a2, e1, e2⟩ := Has.split (l := [fmD y, daA Fs]) (m := l) H
  refine ⟨h1, h2, d, a1, a2, ?_, e2⟩
  obtain ⟨k1, k2, d2, b1, b2, f1, f2⟩ := e1
  have f3 : Has (Fs.map fmD) k2 := by
    obtain ⟨m1, _, _, c1, _, q, _⟩ := f2
    exact Has.mono c1 q
  show Has ((Fs.set i y).map fmD) h1
  rw [List.map_set]
  exact key _ _ _ (by simpa using hi) _ ⟨k1, k2, d2, b1, b2, f1, f3⟩

theorem Fn.openPl {P : Program} {B : Base} {f : FuncId} {args : Array Value} {g b n first count hand gl : Nat} {A : List Fa} {S : List Assn} {R : Value → List Assn → Prop}
    (h : ∀ q : Pg3, q.Fs.map Fm.a = A → (∀ (i : Nat) (x : Fm), q.Fs[i]? = some x → 0 < x.b.length → ∃ g, x.p = some ⟨g, 0, none⟩) → (∃ gp, q.pl = some ⟨gp, 0, none⟩) → Fn P B f args (plC g b n first count hand gl q ++ S) R) : Fn P B f args (plA g b n first count hand gl A :: S) R := ⟨fun w F ho => by
  obtain ⟨hh, hd, hl, H⟩ := ho.has
  obtain ⟨q, H1⟩ := Has.open_ex H
  have H2 := Has.open_sepL H1
  obtain ⟨hA, H3⟩ := Has.open_pu H2
  have ho' : Own B w (plC g b n first count hand gl q ++ (S ++ F)) := ⟨ho.os, ho.tape, ho.output, ho.ro, hh, hd, hl, H3⟩
  simp only [List.cons_append, List.nil_append] at ho'
  refine (h q hA (ho'.daPtr (Fs := q.Fs)) ((ho'.slice_at (p := q.pl) (m := 1) (c := q.cl)).2.1 (by omega))).run w F ?_
  simpa using ho'⟩
theorem sub_pl {g b n first count hand gl : Nat} {A : List Fa} (q : Pg3) (hA : q.Fs.map Fm.a = A) {S : List Assn} : Sub (plC g b n first count hand gl q ++ S) (plA g b n first count hand gl A :: S) := fun h H => by
  refine Has.close_ex q ?_
  exact Has.close_sepL (Has.close_pu hA H)
end Go.Proofs.YtegohgaccmkigaaDoor
