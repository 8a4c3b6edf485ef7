/- The texts Law Law2 PgRd HeA HpA HpB, one behind the other: what the law leans on. Conditions: as each theorem says. -/
import Derived.Test.YtiooeiapplnafaaGreatDoorZHqBase6
import Derived.Deep.Slices
import Derived.Test.YtiooeiapplnafaaGreatDoorCards
import Derived.Test.YtiooeiapplnafaaGreatDoorTie
import Derived.Deep.DeepHandedRow
import Derived.Lib.LaidU8
set_option linter.unusedSimpArgs false
set_option linter.unusedVariables false
set_option maxRecDepth 100000
set_option maxHeartbeats 16000000
namespace Go.Proofs.YtiooeiapplnafaaGreatDoor
open Go.ChangeShapes Go.WideShapes Go.ChangeAt Go.RowKit
theorem Tryz.own : ownKnob Tryz.prog.godebug = none := by kernel_rfl
theorem Tryz.laidOut : laidOutB Tryz.prog = true := by kernel_rfl
section
variable {H : Type} {enc : TypeId × Value → H} {P : Program}
theorem trodAll_stays (hl : laidOutB P = true) {W W' : World} (hb : Below W.heap.size W W') : ∀ (ts : List TypeId) (vs : List Value) (ds : List (DataW H)) (ps : List MemPlace), (∀ t ∈ ts, P.readableRec t = true ∧ t < P.types.size) →
  (∀ x ∈ ps, x.block < W.heap.size) → DataW.TrodAll enc P W 0 (fun _ => true) true ts vs ds ps → DataW.TrodAll enc P W' 0 (fun b => decide (b < W.heap.size)) true ts vs ds ps
 | [], [], [], ps, _, _, h => h
 | t :: ts, v :: vs, d :: ds, ps, hr, hlt, h => by
  obtain ⟨p, q, h1, h2, rfl⟩ := h
  refine ⟨p, q, Below.trod hl (hr t (by simp)).1 (hr t (by simp)).2 h1 hb (fun x hx => hlt x (by simp [hx])), trodAll_stays hl hb ts vs ds q (fun t ht => hr t (by simp [ht])) (fun x hx => hlt x (by simp [hx])) h2, rfl⟩
 | [], [], _ :: _, _, _, _, h => h
 | [], _ :: _, _, _, _, _, h => h
 | _ :: _, [], _, _, _, _, h => h
 | _ :: _, _ :: _, [], _, _, _, h => h
theorem post_law {f : Func} {s : ChangeSpec} {W W' : World} {args : Array Value} {ds gs : List (DataW H)} {before : List MemPlace} (hl : laidOutB P = true)
    (hW : DataW.Whole enc P f.params.toList s.vars false W args.toList ds gs before) (hvars : s.vars = []) (hres : s.fn H (ds ++ gs) = { results := [.lit (.bool true)], args := ds })
    (tb : TypeId) (htb : P.underlying tb = some .bool) (hrt : f.resultTypes = #[tb]) (hr : ∀ t ∈ f.params.toList, P.readableRec t = true ∧ t < P.types.size) (hb : Below W.heap.size W W') :
    s.post enc P f false true false false W args (.bool true) W' := by
  have hW' := hW
  obtain ⟨p, q, hA, hV, rfl, hfz, hnd⟩ := hW
  rw [hvars] at hV
  obtain ⟨rfl, rfl⟩ := trodVars_none hV
  have hlt : ∀ x ∈ p, x.block < W.heap.size := fun x hx => by simpa using hW'.lt x (by simp [hx])
  refine ⟨ds, [], p ++ [], [], p, [], hW', ?_, ?_, ?_, hb.frame _, fun h => by cases h⟩
  · rw [hres, hrt]
    exact trodAll_cons_mk (shut_bool htb _) trodAll_mk0
  · rw [hres]
    exact trodAll_stays hl hb _ _ _ _ hr hlt hA
  · rw [hres, hvars]
    rfl
end
section
variable {H : Type} {enc : TypeId × Value → H} {P : Program} {W : World}
abbrev Tr (enc : TypeId × Value → H) (P : Program) (W : World) (fuel : Nat) (t : TypeId) (cs : List Value) : Option (DataW H × List MemPlace) := DataW.trod enc P W 0 (fun _ => true) true fuel t cs
def SliceAt (W : World) (sz : Nat) {α : Type} (R : List Value → α → Prop) (v : Value) (l : List α) : Prop :=
 (v = .slice none 0 0 ∧ l = []) ∨ ∃ a cap, v = .slice (some a) l.length cap ∧ l.length ≤ cap ∧ cap ≤ maxLen ∧
  ∀ i (hi : i < l.length), ∃ cells b o, a = ⟨b, o, none⟩ ∧ b < W.heap.size ∧ cells.length = sz ∧ W.rangeAt b (o + i * sz) cells ∧ R cells l[i]
theorem choose_list {α : Type} {n : Nat} {Q : Nat → α → Prop} (h : ∀ i, i < n → ∃ a, Q i a) : ∃ l : List α, l.length = n ∧ ∀ i (hi : i < l.length), Q i l[i] := by
  induction n with
  | zero => exact ⟨[], rfl, fun i hi => by simp at hi⟩
  | succ n ih =>
    obtain ⟨l, hl, h2⟩ := ih (fun i hi => h i (by omega))
    obtain ⟨a, ha⟩ := h n (by omega)
    refine ⟨l ++ [a], by simp [hl], fun i hi => ?_⟩
    by_cases hin : i < l.length
    · rw [List.getElem_append_left hin]; exact h2 i hin
    · have : i = n := by simp at hi; omega
      subst this
      simp only [← hl, List.getElem_concat_length]; rw [hl]; exact ha
theorem map_sum_le {α β : Type} (f : α → Nat) (g : β → Nat) : ∀ (l : List α) (D : List β), l.length = D.length → (∀ i (h1 : i < l.length) (h2 : i < D.length), f l[i] ≤ g D[i]) → (l.map f).sum ≤ (D.map g).sum
 | [], [], _, _ => by simp
 | x :: l, y :: D, hl, h => by
  have h0 := h 0 (by simp) (by simp)
  have := map_sum_le f g l D (by simpa using hl) (fun i h1 h2 => by have h3 := h (i + 1) (by simpa using h1) (by simpa using h2); simp only [List.getElem_cons_succ] at h3; exact h3)
  simp only [List.map_cons, List.sum_cons]
  simp only [List.getElem_cons_zero] at h0
  omega
 | [], _ :: _, hl, _ => by simp at hl
 | _ :: _, [], hl, _ => by simp at hl
theorem bulkAll_sum (l : List (DataW H)) : Rows.uptoBulkAll l = (l.map Rows.uptoBulk).sum := by
 induction l with
 | nil => rfl
 | cons d l ih => simp [Rows.uptoBulkAll, ih]
theorem open_slice_R {t e : TypeId} {sz fuel : Nat} {cs : List Value} {x : DataW H × List MemPlace} {α : Type} {R : List Value → α → Prop} {B : α → Nat} (ht : P.underlying t = some (.slice e)) (hc : P.cellsOf e = sz) (hsz : 0 < sz)
    (hR : ∀ n cs y, Tr enc P W n e cs = some y → ∃ a, R cs a ∧ B a ≤ Rows.uptoBulk y.1) (h : Tr enc P W fuel t cs = some x) :
    ∃ v l, cs = [v] ∧ SliceAt W sz R v l ∧ (l.map B).sum + 1 ≤ Rows.uptoBulk x.1 ∧ l.length + 1 ≤ Rows.uptoBulk x.1 := by
  subst hc
  rcases Deep.open_slice ht h with ⟨rfl, rfl⟩ | ⟨a, len, cap, m, n, D, Pl, rfl, hb, hl, hm, hmm, rfl, hx⟩
  · exact ⟨_, [], rfl, .inl ⟨rfl, rfl⟩, by simp [Rows.uptoBulk], by simp [Rows.uptoBulk]⟩
  · simp only [if_true] at hmm
    subst hmm
    obtain ⟨l, hll, hli⟩ := choose_list (n := len) (Q := fun i (y : α) => ∃ cells, W.cells? 0 (a.add (i * P.cellsOf e)) (P.cellsOf e) = some cells ∧ R cells y ∧ B y ≤ Rows.uptoBulk (D i)) (fun i hi => by
      obtain ⟨cs', h1, h2⟩ := hx i (by omega)
      obtain ⟨y, hy, hB⟩ := hR n cs' _ h2
      exact ⟨y, cs', h1, hy, hB⟩)
    refine ⟨_, l, rfl, .inr ⟨a, m, by rw [hll], by omega, hm, fun i hi => ?_⟩, ?_, ?_⟩
    · obtain ⟨cells, h1, h2, _⟩ := hli i hi
      obtain ⟨_, h4, h5⟩ := World.cells?_some h1
      have hsp : a.spot = none := by
        have h0 := hx 0 (by omega)
        obtain ⟨cs', g1, _⟩ := h0
        obtain ⟨_, g4, g5⟩ := World.cells?_some g1
        have := g5 0 hsz
        simp only [Nat.zero_mul] at this
        have hadd : (a.add 0).add 0 = a := by simp [Addr.add]
        rw [hadd, List.getElem?_eq_getElem (by omega)] at this
        unfold World.cell? at this
        cases hh : W.heap[a.block]? with
        | none => simp [hh] at this
        | some o =>
          cases o <;> simp [hh] at this
          have hq := this.1
          cases hs : a.spot with
          | none => rfl
          | some s => simp [hs] at hq
      obtain ⟨b, o, sp⟩ := a
      simp only at hsp
      subst hsp
      have hcell : W.rangeAt b (o + i * P.cellsOf e) cells := fun j v hj => by
        have hjl : j < P.cellsOf e := by have := (List.getElem?_eq_some_iff.1 hj).1; omega
        have := h5 j hjl
        rw [Addr.add_mid, Addr.add_mid] at this
        rw [this]; exact hj
      have hlt : b < W.heap.size := World.block_lt_of_cell? W _ (hcell 0 _ (List.getElem?_eq_getElem (by omega)))
      exact ⟨cells, b, o, rfl, hlt, h4, hcell, h2⟩
    · have := map_sum_le B Rows.uptoBulk l ((List.range len).map D) (by simp [hll]) (fun i h1 h2 => by
        obtain ⟨_, _, _, h3⟩ := hli i h1
        simpa using h3)
      simp only [Rows.uptoBulk, bulkAll_sum]
      omega
    · simp only [Rows.uptoBulk]
      have h1 : l.length ≤ Rows.uptoBulkAll ((List.range len).map D) := by
        rw [bulkAll_sum, hll]
        have : ∀ L : List Nat, L.length ≤ ((L.map D).map Rows.uptoBulk).sum := by
          intro L
          induction L with
          | nil => simp
          | cons a L ih =>
            simp only [List.map_cons, List.sum_cons, List.length_cons]
            have : 1 ≤ Rows.uptoBulk (D a) := by
              cases D a with
              | lit l => cases l <;> simp [Rows.uptoBulk]
              | _ => simp [Rows.uptoBulk]
            omega
        simpa using this (List.range len)
      omega
theorem field_of {fs : Array Field} {n : Nat} {cs : List Value} {xs : List (DataW H × List MemPlace)} (hf : ∀ (i : Nat) (f : Field), fs[i]? = some f → Tr enc P W n f.type ((cs.drop f.offset).take (P.cellsOf f.type)) = xs[i]?)
  (i t off c : Nat) (h : (fs[i]?).map (fun f => (f.type, f.offset)) = some (t, off)) (hc : P.cellsOf t = c) : Tr enc P W n t ((cs.drop off).take c) = xs[i]? := by
 cases hq : fs[i]? with
 | none => simp [hq] at h
 | some f =>
  simp only [hq, Option.map_some, Option.some.injEq, Prod.mk.injEq] at h
  have := hf i f hq
  rw [h.1, h.2, hc] at this
  exact this
theorem read_u8 {e : TypeId} (he : P.underlying e = some (.int .u8)) (n : Nat) (cs : List Value) (y : DataW H × List MemPlace) (h : Tr enc P W n e cs = some y) : ∃ a : UInt8, cs = [.int .u8 a.toNat] ∧ 1 ≤ Rows.uptoBulk y.1 := by
 obtain ⟨k, rfl, rfl, hw⟩ := DataW.trod_int he h
 have hw' : 0 ≤ k ∧ k ≤ 255 := by simpa [Lit.wf, IntKind.min, IntKind.max, IntKind.signed, IntKind.bits] using hw
 refine ⟨UInt8.ofNat k.toNat, ?_, by simp [Rows.uptoBulk]⟩
 congr 2
 rw [UInt8.toNat_ofNat', Nat.mod_eq_of_lt (by omega)]; omega
theorem read_bool {e : TypeId} (he : P.underlying e = some .bool) (n : Nat) (cs : List Value) (y : DataW H × List MemPlace) (h : Tr enc P W n e cs = some y) : ∃ a : Bool, cs = [.bool a] ∧ 1 ≤ Rows.uptoBulk y.1 := by
 obtain ⟨b, rfl, rfl⟩ := DataW.trod_bool he h
 exact ⟨b, rfl, by simp [Rows.uptoBulk]⟩
theorem read_i64 {e : TypeId} (he : P.underlying e = some (.int .i64)) (n : Nat) (cs : List Value) (y : DataW H × List MemPlace) (h : Tr enc P W n e cs = some y) : ∃ a : Int, (cs = [.int .i64 a] ∧ -9223372036854775808 ≤ a ∧ a ≤ 9223372036854775807) ∧ 1 ≤ Rows.uptoBulk y.1 := by
 obtain ⟨k, rfl, rfl, hw⟩ := DataW.trod_int he h
 exact ⟨k, ⟨rfl, by simpa [Lit.wf, IntKind.min, IntKind.max, IntKind.signed, IntKind.bits] using hw⟩, by simp [Rows.uptoBulk]⟩
theorem SliceAt.reads {α : Type} {R : List Value → α → Prop} {v : Value} {l : List α} (f : α → Value) (hf : ∀ cs a, R cs a → cs = [f a]) (h : SliceAt W 1 R v l) : ∃ fp, Reads W v (l.map f) fp ∧ ∀ x ∈ fp, x < W.heap.size := by
  rcases h with ⟨rfl, rfl⟩ | ⟨a, cap, rfl, hl, hm, hi⟩
  · exact ⟨[], Reads.nil W, by simp⟩
  · by_cases h0 : l = []
    · subst h0; exact ⟨[], ⟨_, cap, rfl, .inl rfl⟩, by simp⟩
    · have hp : 0 < l.length := List.length_pos_iff.2 h0
      obtain ⟨cells, b, o, ha, hb, hlen, hr, hR⟩ := hi 0 hp
      subst ha
      refine ⟨[b], ⟨_, cap, by simp, .inr ⟨b, o, rfl, fun j v hv => ?_, by simp⟩⟩, by simpa using hb⟩
      have hj : j < l.length := by have := (List.getElem?_eq_some_iff.1 hv).1; simpa using this
      obtain ⟨cells', b', o', ha', _, hlen', hr', hR'⟩ := hi j hj
      injection ha' with e1 e2
      subst e1; subst e2
      have hc := hf _ _ hR'
      subst hc
      have := hr' 0 (f l[j]) rfl
      simp only [Nat.mul_one, Nat.add_zero] at this
      rw [this]
      simp only [List.getElem?_map, List.getElem?_eq_getElem hj, Option.map_some] at hv
      exact hv
end
theorem Tryz.upto_bound {H : Type} {l : List (DataW H)} (hk : Rows.uptoSmall H l = true) : Rows.uptoBulkAll l ≤ 1048576 := of_decide_eq_true hk
theorem bulk_two {H : Type} (a b : DataW H) : Rows.uptoBulkAll [a, b] = Rows.uptoBulk a + Rows.uptoBulk b := by simp [Rows.uptoBulkAll]
open Go.RowKit
def baseOf (W : World) : Base := ⟨W.os, W.tape, W.output, World.piece W⟩
theorem own_base (W : World) : Own (baseOf W) W [] := ⟨rfl, rfl, rfl, Piece.le_refl _, fun _ => none, ⟨fun _ => .inl rfl⟩, ⟨fun _ _ e => by cases e⟩, trivial⟩
theorem Own.keeps {W W' : World} {l : List Assn} (h : Own (baseOf W) W' l) : Kept [] W W' := by
  have hb : ∀ k o, W.heap[k]? = some o → W'.heap[k]? = some o := fun k o e => h.ro.p k o e
  refine ⟨h.os, h.tape, h.output, ?_, fun k hk _ => ?_⟩
  · rcases Nat.eq_zero_or_pos W.heap.size with h0 | h0
    · omega
    · have := lt_of_block (hb (W.heap.size - 1) _ (Array.getElem?_eq_getElem (by omega)))
      omega
  · rw [hb k _ (Array.getElem?_eq_getElem hk), Array.getElem?_eq_getElem hk]
theorem Fn.law {P : Program} {W : World} {g : FuncId} {args : Array Value} (h : Fn P (baseOf W) g args [] (fun v l => v = .bool true ∧ l = [])) : Calls P g args W fun e W' => e = .returned (.bool true) ∧ Kept [] W W' := by
 refine (h.run W [] (own_base W)).mono ?_
 rintro e w' ⟨v, l, rfl, ⟨rfl, rfl⟩, ho⟩
 exact ⟨rfl, ho.keeps⟩
theorem range_cell {W : World} {b o j : Nat} {v : Value} (h : W.cell? ⟨b, o + j, none⟩ = some v) : ∃ c t fr, W.heap[b]? = some (.cells c t fr) ∧ c[o + j]? = some v := by
  unfold World.cell? at h
  split at h
  · rename_i c e fr hb
    exact ⟨c, e, fr, hb, by simpa using h⟩
  · cases h
theorem roc_of {W : World} {b : Nat} {c : Array Value} {t : TypeId} {fr : Nat × Nat} (h : W.heap[b]? = some (.cells c t fr)) : ROc (baseOf W) b c.toList := ⟨[], t, fr, by simpa [baseOf, World.piece] using h⟩
theorem RoS.ofReads {W : World} {v : Value} {cs : List Value} {fp : List Nat} (h : Reads W v cs fp) : RoS (baseOf W) v cs := by
  obtain ⟨a, cap, rfl, h | ⟨b, o, rfl, hr, _⟩⟩ := h
  · exact ⟨a, cap, rfl, .inl h⟩
  · match cs, hr with
    | [], _ => exact ⟨_, cap, rfl, .inl rfl⟩
    | u :: cs, hr =>
      obtain ⟨c, t, fr, hb, _⟩ := range_cell (hr 0 u rfl)
      refine ⟨_, cap, rfl, .inr ⟨b, o, c.toList, rfl, roc_of hb, fun j x hx => ?_⟩⟩
      obtain ⟨c', t', fr', hb', hc'⟩ := range_cell (hr j x hx)
      rw [hb] at hb'
      injection hb' with e1
      injection e1 with e1
      subst e1
      rw [Nat.mul_one]
      simpa using hc'
theorem SliceAt.ro {α : Type} {W : World} {sz : Nat} {R : List Value → α → Prop} {v : Value} {l : List α} (h : SliceAt W sz R v l) (hsz : 0 < sz) : ∃ a cap, v = .slice a l.length cap ∧ (l = [] ∨ ∃ b o C, a = some ⟨b, o, none⟩ ∧ ROc (baseOf W) b C ∧ ∀ i (hi : i < l.length), ∃ cells, rdl C (o + i * sz) cells ∧ R cells l[i]) := by
  rcases h with ⟨rfl, rfl⟩ | ⟨a, cap, rfl, hl, hm, hi⟩
  · exact ⟨none, 0, rfl, .inl rfl⟩
  · refine ⟨some a, cap, rfl, ?_⟩
    by_cases h0 : l = []
    · exact .inl h0
    · right
      have hp : 0 < l.length := List.length_pos_iff.2 h0
      obtain ⟨cells, b, o, rfl, hb, hlen, hr, hR⟩ := hi 0 hp
      obtain ⟨c, t, fr, hbb, _⟩ := range_cell (hr 0 _ (List.getElem?_eq_getElem (by omega)))
      refine ⟨b, o, c.toList, rfl, roc_of hbb, fun i hil => ?_⟩
      obtain ⟨cells', b', o', e, _, hlen', hr', hR'⟩ := hi i hil
      injection e with e1 e2
      subst e1; subst e2
      refine ⟨cells', rdl_of fun j u hu => ?_, hR'⟩
      obtain ⟨c', t', fr', hb', hc'⟩ := range_cell (hr' j u hu)
      rw [hbb] at hb'
      injection hb' with e1
      injection e1 with e1
      subst e1
      simpa using hc'
end Go.Proofs.YtiooeiapplnafaaGreatDoor
namespace Go.Proofs.YtiooeiapplnafaaGreatDoor
open Go.ChangeShapes Go.WideShapes Go.ChangeAt Go.RowKit
section
variable {H : Type} {enc : TypeId × Value → H} {W : World}
theorem read_bytes (n : Nat) (c : Value) (y : DataW H × List MemPlace) (h : Tr enc Tryz.prog W n 22 [c] = some y) : ∃ (l : List UInt8) (fp : List Nat), Reads W c (bytesV l) fp ∧ (∀ x ∈ fp, x < W.heap.size) ∧ l.length + 1 ≤ Rows.uptoBulk y.1 := by
 obtain ⟨v, l, hc, hs, _, hL⟩ := open_slice_R (R := fun cs (a : UInt8) => cs = [.int .u8 a.toNat]) (B := fun _ => 1) Tryz.underlying22 (show Tryz.prog.cellsOf 5 = 1 by kernel_rfl) (by omega) (fun n cs y => read_u8 Tryz.underlying5 n cs y) h
 simp only [List.cons.injEq, and_true] at hc
 subst hc
 obtain ⟨fp, hR, hfp⟩ := hs.reads (fun a : UInt8 => Value.int .u8 a.toNat) (fun cs a h => h)
 exact ⟨l, fp, hR, hfp, hL⟩
end
noncomputable def laidWorld (os : Os) : World :=
 let w0 := World.holding Tryz.prog os ⟨#[], #[], []⟩
 let put (h : Array Obj) (g : Nat) (cs : Array Value) : Array Obj := h.modify g fun
  | .cells _ t frozen => .cells cs t frozen
  | o => o
 let h1 := put w0.heap 1 (Lib.firstTab.map fun z => Value.int .u8 z).toArray
 let h2 := put h1 2 ((List.range 16).flatMap fun i => [Value.int .u8 (Lib.accLo i), Value.int .u8 (Lib.accHi i)]).toArray
 { w0 with heap := h2 }
theorem laid_met (os : Os) (args : Array Value) : laidMet Tryz.prog [("unicode/utf8.acceptRanges", Rows.laid_unicode_utf8_acceptRanges), ("unicode/utf8.first", Rows.laid_unicode_utf8_first)] ((laidWorld os).forCall (fun _ _ => 0) ⟨#[], args, []⟩).memory :=
 laidMet_of_run' 8 (by kernel_rfl) (by kernel_rfl)
open Go.RowKit
structure En where
 kind : Int
 txn : Int
 page : Int
 slot : Int
 stamp : Int
 data : List UInt8
abbrev enPlace (e : En) : Prop := 0 ≤ e.page ∧ e.page ≤ 65535 ∧ 0 ≤ e.slot ∧ e.slot ≤ 255
def enCode (e : En) : Int :=
 if e.kind < 1 ∨ 3 < e.kind then 21
 else if e.txn < 1 ∨ ¬ enPlace e ∨ e.stamp < 0 ∨ 1099511627776 < e.stamp then 1
 else if (e.kind = 3 ∧ (e.page ≠ 0 ∨ e.slot ≠ 0)) ∨ (e.kind ≠ 3 ∧ e.stamp ≠ 0) ∨ (e.kind ≠ 1 ∧ 0 < e.data.length) then 1
 else if 200 < e.data.length then 2 else 0
structure EnOk (e : En) : Prop where
 kind : 1 ≤ e.kind ∧ e.kind ≤ 3
 txn : 1 ≤ e.txn ∧ e.txn < 9223372036854775808
 place : enPlace e
 stamp : 0 ≤ e.stamp ∧ e.stamp ≤ 1099511627776
 three : e.kind = 3 → e.page = 0 ∧ e.slot = 0
 other : e.kind ≠ 3 → e.stamp = 0
 none : e.kind ≠ 1 → e.data = []
 long : e.data.length ≤ 200
theorem EnOk.code {e : En} (h : EnOk e) : enCode e = 0 := by
 have h1 := h.kind; have h2 := h.txn; have h3 := h.place; have h4 := h.stamp; have h5 := h.long
 unfold enCode
 rw [if_neg (by omega), if_neg (by omega)]
 rw [if_neg, if_neg (by omega)]
 rintro (⟨k, hp⟩ | ⟨k, hp⟩ | ⟨k, hp⟩)
 · have := h.three k; omega
 · exact hp (h.other k)
 · rw [h.none k] at hp; simp at hp
def encE (e : En) : List UInt8 := UInt8.ofInt e.kind :: (be (UInt64.ofInt e.txn) 8 ++ (if e.kind = 3 then be (UInt64.ofInt e.stamp) 8 else be (UInt64.ofInt e.page) 2 ++ (UInt8.ofInt e.slot :: e.data)))
theorem encE_len {e : En} : (encE e).length = if e.kind = 3 then 17 else 12 + e.data.length := by
 unfold encE
 split <;> simp [length_be] <;> omega
theorem u64_int {n : Int} (h0 : 0 ≤ n) (h1 : n < 18446744073709551616) : ((UInt64.ofInt n).toNat : Int) = n := by
 simp [UInt64.ofInt]; omega
theorem u8_int {n : Int} (h0 : 0 ≤ n) (h1 : n < 256) : ((UInt8.ofInt n).toNat : Int) = n := by
 simp [UInt8.ofInt]; omega
theorem get_be {n : Int} {k : Nat} (h0 : 0 ≤ n) (h1 : n < 9223372036854775808) (hk : k ≤ 8) (h2 : n < ((256 ^ k : Nat) : Int)) : ((get64 (be (UInt64.ofInt n) k)).toNat : Int) = n := by
 rw [get64_be _ hk (by have := u64_int h0 (by omega); omega), u64_int h0 (by omega)]
open Go.RowKit
theorem snocI {α : Type} {motive : List α → Prop} (nil : motive []) (snoc : ∀ (l : List α) (a : α), motive l → motive (l ++ [a])) (l : List α) : motive l := by
 have key : ∀ (n : Nat) (l : List α), l.length = n → motive l := by
  intro n
  induction n with
  | zero => intro l hl; rw [List.eq_nil_of_length_eq_zero hl]; exact nil
  | succ n ih =>
   intro l hl
   have hne : l ≠ [] := fun e => by rw [e] at hl; simp at hl
   rw [← List.dropLast_concat_getLast hne]
   exact snoc _ _ (ih _ (by simp [hl]))
 exact key _ l rfl
theorem mem_of_filt {α : Type} {p : α → Bool} {l : List α} {a : α} (h : a ∈ l.filter p) : a ∈ l := (List.mem_filter.1 h).1
structure Ver where
 page : Nat
 slot : Nat
 beg : Int
 fin : Int
 data : List UInt8
 deriving DecidableEq
structure HR where
 pages : Nat
 room : Nat
 used : Int
 vs : List Ver
 act : List Int
 cm : List (Int × Int)
 last : Int
 es : List En
def enSz (e : En) : Nat := 8 + (encE e).length
theorem enSz_eq (e : En) : enSz e = if e.kind = 3 then 25 else 20 + e.data.length := by
 unfold enSz; rw [encE_len]; split <;> omega
abbrev atP (page slot : Int) (v : Ver) : Bool := decide ((v.page : Int) = page) && decide ((v.slot : Int) = slot)
def findV (vs : List Ver) (page slot : Int) : Option Nat := vs.findIdx? (atP page slot)
def finV (t : Int) (v : Ver) : Ver := { v with fin := t }
def writeR (h : HR) (e : En) : HR :=
 { h with
  es := h.es ++ [e]
  used := h.used + enSz e
  vs := if e.kind = 1 then h.vs ++ [⟨e.page.toNat, e.slot.toNat, e.txn, 0, e.data⟩] else if e.kind = 2 then (match findV h.vs e.page e.slot with | some i => h.vs.modify i (finV e.txn) | none => h.vs) else h.vs
  cm := if e.kind = 3 then h.cm ++ [(e.txn, e.stamp)] else h.cm }
def isAct (h : HR) (t : Int) : Bool := h.act.contains t
def isCm (h : HR) (t : Int) : Bool := (h.cm.map (·.1)).contains t
def pageV (vs : List Ver) (q : Nat) : List Ver := vs.filter fun v => decide (v.page = q)
def usedV (l : List Ver) : Nat := (l.map fun v => 17 + v.data.length).sum
def usedP (vs : List Ver) (q : Nat) : Nat := 13 + usedV (pageV vs q)
def newR (pages room : Nat) : HR := ⟨pages, room, 0, [], [], [], 0, []⟩
def beginR (h : HR) : HR := { h with last := h.last + 1, act := h.act ++ [h.last + 1] }
def withoutR (h : HR) (t : Int) : HR := { h with act := h.act.filter fun x => decide (x ≠ t) }
def abortR (h : HR) (t : Int) : HR × Int := if isAct h t = true then (withoutR h t, 0) else (h, 70)
def roomyP (h : HR) (n : Nat) : Option Nat := (List.range h.pages).find? fun q => decide (usedP h.vs q + 17 + n ≤ 256)
abbrev addE (h : HR) (t : Int) (d : List UInt8) (q : Nat) : En := ⟨1, t, q, (pageV h.vs q).length, 0, d⟩
def addR' (h : HR) (t : Int) (d : List UInt8) : HR × Int × Int × Int :=
 if isAct h t = true then
  if 184 < d.length then (h, 0, 0, 2) else
   match roomyP h d.length with
   | none => (h, 0, 0, 3)
   | some q => if (h.room : Int) < h.used + 20 + d.length then (h, 0, 0, 3) else (writeR h (addE h t d q), q, (pageV h.vs q).length, 0)
 else (h, 0, 0, 70)
abbrev endE (t page slot : Int) : En := ⟨2, t, page, slot, 0, []⟩
def endR (h : HR) (t page slot : Int) : HR × Int :=
 if isAct h t = true then
  match (findV h.vs page slot).bind (h.vs[·]?) with
  | none => (h, 4)
  | some v =>
   if (v.beg ≠ t ∧ isCm h v.beg = false) ∨ v.fin = t ∨ isCm h v.fin = true then (h, 4)
   else if isAct h v.fin = true then (h, 71)
   else if (h.room : Int) < h.used + 20 then (h, 3)
   else (writeR h (endE t page slot), 0)
 else (h, 70)
abbrev cmE (t stamp : Int) : En := ⟨3, t, 0, 0, stamp, []⟩
def badStamp (h : HR) (stamp : Int) : Bool := decide (stamp < 0) || decide (1099511627776 < stamp) || (match h.cm.getLast? with | none => false | some c => decide (stamp ≤ c.2))
def commitR (h : HR) (t stamp : Int) : HR × Int :=
 if isAct h t = true then
  if badStamp h stamp = true then (h, 1)
  else if (h.room : Int) < h.used + 25 then (h, 3)
  else (writeR (withoutR h t) (cmE t stamp), 0)
 else (h, 70)
def visV (h : HR) (v : Ver) : Option Ver :=
 if isAct h v.beg = false ∧ isCm h v.beg = false then none
 else some (if isAct h v.fin = false ∧ isCm h v.fin = false then { v with fin := 0 } else v)
def allR (h : HR) : List Ver := (List.range h.pages).flatMap fun q => (pageV h.vs q).filterMap (visV h)
def sureR (h : HR) : List Ver := allR { h with act := [] }
def lastE (es : List En) : Int := es.foldl (fun m e => max m e.txn) 0
def replay (pages room : Nat) (es : List En) : HR := es.foldl writeR (newR pages room)
def fitsA (h : HR) (t : Int) : List Int → HR × Bool
 | [] => (h, true)
 | s :: l => if s < 0 ∨ 184 < s then (h, false) else
   let r := addR' h t (List.replicate s.toNat 0)
   if r.2.2.2 ≠ 0 then (r.1, false) else fitsA r.1 t l
def fitsR (h : HR) (ends : Int) (sizes : List Int) : Bool :=
 if ends < 0 ∨ (h.room : Int) < ends then false else
  let r := fitsA { beginR h with used := h.used + (20 * ends + 25) } (h.last + 1) sizes
  r.2 && decide (r.1.used ≤ (r.1.room : Int))
def verB (v : Ver) : List UInt8 := be (UInt64.ofInt v.beg) 8 ++ be (UInt64.ofInt v.fin) 8 ++ v.data
theorem length_verB (v : Ver) : (verB v).length = 16 + v.data.length := by simp [verB, length_be]; omega
def recsOf (vs : List Ver) (q : Nat) : List (List UInt8) := (pageV vs q).map verB
theorem used_recs (vs : List Ver) (q : Nat) : usedR (recsOf vs q) = usedV (pageV vs q) := by
 unfold recsOf usedR usedV
 rw [List.map_map]
 congr 1
 apply List.map_congr_left
 intro v _
 simp [length_verB]; omega
def Slots (vs : List Ver) : Prop := ∀ (i : Nat) (v : Ver), vs[i]? = some v → v.slot = (pageV (vs.take i) v.page).length
theorem pageV_append (a b : List Ver) (q : Nat) : pageV (a ++ b) q = pageV a q ++ pageV b q := by simp [pageV]
theorem Slots.snoc {vs : List Ver} (h : Slots vs) {v : Ver} (hv : v.slot = (pageV vs v.page).length) : Slots (vs ++ [v]) := by
  intro i u hu
  rw [List.getElem?_append] at hu
  split at hu
  · rename_i hi
    rw [h i u hu, List.take_append_of_le_length (by omega)]
  · rename_i hi
    have hi2 : i - vs.length = 0 := by
      rcases Nat.eq_zero_or_pos (i - vs.length) with e | e
      · exact e
      · rw [List.getElem?_eq_none (by simp; omega)] at hu; cases hu
    rw [hi2] at hu
    simp at hu; subst hu
    have : i = vs.length := by omega
    subst this
    rw [hv, List.take_left']
    rfl
theorem pageV_modify (t : Int) (q : Nat) : ∀ (vs : List Ver) (i : Nat), (pageV (vs.modify i (finV t)) q).length = (pageV vs q).length
 | [], i => by simp [pageV]
 | v :: vs, 0 => by simp [pageV, finV, List.filter_cons]; split <;> rfl
 | v :: vs, i + 1 => by
  have := pageV_modify t q vs i
  simp only [pageV, List.modify_succ_cons, List.filter_cons] at this ⊢
  split <;> simp [this]
theorem take_modify {t : Int} : ∀ (vs : List Ver) (i j : Nat), (vs.modify i (finV t)).take j = (vs.take j).modify i (finV t)
 | [], i, j => by simp
 | v :: vs, i, 0 => by simp
 | v :: vs, 0, j + 1 => by simp
 | v :: vs, i + 1, j + 1 => by simp [take_modify vs i j]
theorem Slots.modify {vs : List Ver} (h : Slots vs) (i : Nat) (t : Int) : Slots (vs.modify i (finV t)) := by
 intro j u hu
 rw [List.getElem?_modify] at hu
 cases hv : vs[j]? with
 | none => rw [hv] at hu; split at hu <;> cases hu
 | some v =>
  have h1 := h j v hv
  rw [take_modify, pageV_modify]
  rw [hv] at hu
  split at hu
  · simp at hu; subst hu; exact h1
  · simp at hu; subst hu; exact h1
theorem slots_page {vs : List Ver} (h : Slots vs) (q : Nat) : ∀ (s : Nat) (v : Ver), (pageV vs q)[s]? = some v → v.page = q ∧ v.slot = s := by
  have key : ∀ (pre post : List Ver), pre ++ post = vs → ∀ (s : Nat) (v : Ver), (pageV post q)[s]? = some v → v.page = q ∧ v.slot = (pageV pre q).length + s := by
    intro pre post
    induction post generalizing pre with
    | nil => intro _ s v hv; simp [pageV] at hv
    | cons u post ih =>
      intro he s v hv
      have hu : vs[pre.length]? = some u := by rw [← he]; simp
      have hs := h pre.length u hu
      have htk : vs.take pre.length = pre := by rw [← he]; simp
      rw [htk] at hs
      have ih' := ih (pre ++ [u]) (by rw [← he]; simp)
      by_cases e : u.page = q
      · have : pageV (u :: post) q = u :: pageV post q := by simp [pageV, e]
        rw [this] at hv
        have hp1 : pageV (pre ++ [u]) q = pageV pre q ++ [u] := by simp [pageV, e]
        cases s with
        | zero => simp at hv; subst hv; exact ⟨e, by rw [hs, e]; rfl⟩
        | succ s =>
          simp at hv
          obtain ⟨a, b⟩ := ih' s v hv
          rw [hp1] at b
          exact ⟨a, by rw [b]; simp; omega⟩
      · have : pageV (u :: post) q = pageV post q := by simp [pageV, e]
        rw [this] at hv
        have hp1 : pageV (pre ++ [u]) q = pageV pre q := by simp [pageV, e]
        obtain ⟨a, b⟩ := ih' s v hv
        rw [hp1] at b
        exact ⟨a, b⟩
  intro s v hv
  have := key [] vs rfl s v hv
  simpa [pageV] using this
theorem slots_inj {vs : List Ver} (h : Slots vs) {i j : Nat} {u v : Ver} (hu : vs[i]? = some u) (hv : vs[j]? = some v) (hp : u.page = v.page) (hs : u.slot = v.slot) : i = j := by
 have key : ∀ {i j : Nat} {u v : Ver}, vs[i]? = some u → vs[j]? = some v → u.page = v.page → u.slot = v.slot → ¬ i < j := by
  intro i j u v hu hv hp hs hlt
  have h1 := h i u hu
  have h2 := h j v hv
  have hsplit : vs.take j = vs.take i ++ u :: (vs.take j).drop (i + 1) := by
   have hi : (vs.take j)[i]? = some u := by rw [List.getElem?_take, if_pos hlt]; exact hu
   have hil := (List.getElem?_eq_some_iff.1 hi).1
   have e1 : (vs.take j).take i = vs.take i := by rw [List.take_take]; congr 1; omega
   have e2 := List.take_append_drop i (vs.take j)
   rw [e1] at e2
   rw [List.drop_eq_getElem_cons hil] at e2
   have e3 : (vs.take j)[i] = u := by rw [List.getElem?_eq_getElem hil] at hi; exact Option.some.inj hi
   rw [e3] at e2
   exact e2.symm
  rw [hsplit, pageV_append] at h2
  have : pageV (u :: (vs.take j).drop (i + 1)) v.page = u :: pageV ((vs.take j).drop (i + 1)) v.page := by simp [pageV, hp]
  rw [this] at h2
  rw [hp] at h1
  simp at h2
  omega
 rcases Nat.lt_trichotomy i j with h1 | h1 | h1
 · exact absurd h1 (key hu hv hp hs)
 · exact h1
 · exact absurd h1 (key hv hu hp.symm hs.symm)
theorem findV_some {vs : List Ver} {page slot : Int} {i : Nat} (h : findV vs page slot = some i) : ∃ v, vs[i]? = some v ∧ (v.page : Int) = page ∧ (v.slot : Int) = slot := by
 obtain ⟨hi, h1, _⟩ := List.findIdx?_eq_some_iff_getElem.1 h
 simp only [atP, Bool.and_eq_true, decide_eq_true_eq] at h1
 exact ⟨_, List.getElem?_eq_getElem hi, h1⟩
theorem findV_none {vs : List Ver} {page slot : Int} (h : findV vs page slot = none) : ∀ v ∈ vs, ¬ ((v.page : Int) = page ∧ (v.slot : Int) = slot) := by
 intro v hv
 have := List.findIdx?_eq_none_iff.1 h v hv
 simpa [atP] using this
theorem findV_of {vs : List Ver} (h : Slots vs) {i : Nat} {v : Ver} (hv : vs[i]? = some v) : findV vs v.page v.slot = some i := by
 cases hf : findV vs v.page v.slot with
 | none => exact absurd ⟨rfl, rfl⟩ (findV_none hf v (List.mem_of_getElem? hv))
 | some j =>
  obtain ⟨u, hu, h1, h2⟩ := findV_some hf
  rw [slots_inj h hu hv (by omega) (by omega)]
theorem page_at {vs : List Ver} (h : Slots vs) {i : Nat} {v : Ver} (hv : vs[i]? = some v) : (pageV vs v.page)[v.slot]? = some v := by
 have hi := (List.getElem?_eq_some_iff.1 hv).1
 have h1 := h i v hv
 have e2 := List.take_append_drop i vs
 rw [List.drop_eq_getElem_cons hi] at e2
 have e3 : vs[i] = v := by rw [List.getElem?_eq_getElem hi] at hv; exact Option.some.inj hv
 rw [e3] at e2
 rw [← e2, pageV_append, List.getElem?_append_right (by rw [e2] at *; omega)]
 have : pageV (v :: vs.drop (i + 1)) v.page = v :: pageV (vs.drop (i + 1)) v.page := by simp [pageV]
 rw [this]
 have e4 : v.slot - (pageV (vs.take i) v.page).length = 0 := by omega
 rw [e4]; rfl
theorem findV_page {vs : List Ver} (h : Slots vs) (page slot : Int) : (findV vs page slot).bind (vs[·]?) = if 0 ≤ page ∧ 0 ≤ slot then (pageV vs page.toNat)[slot.toNat]? else none := by
  cases hf : findV vs page slot with
  | some i =>
    obtain ⟨v, hv, h1, h2⟩ := findV_some hf
    have := page_at h hv
    rw [if_pos (by omega)]
    have e1 : page.toNat = v.page := by omega
    have e2 : slot.toNat = v.slot := by omega
    rw [e1, e2, this]
    exact hv
  | none =>
    have hn := findV_none hf
    split
    · rename_i h0
      cases hp : (pageV vs page.toNat)[slot.toNat]? with
      | none => rfl
      | some v =>
        obtain ⟨a, b⟩ := slots_page h _ _ _ hp
        have hm : v ∈ vs := mem_of_filt (List.mem_of_getElem? hp)
        exact absurd ⟨by omega, by omega⟩ (hn v hm)
    · rfl
open Go.RowKit
structure OkStep (h : HR) (e : En) : Prop where
 ok : EnOk e
 cm : isCm h e.txn = false
 one : e.kind = 1 → e.page < h.pages ∧ e.slot = (pageV h.vs e.page.toNat).length ∧ e.data.length ≤ 184 ∧ usedP h.vs e.page.toNat + 17 + e.data.length ≤ 256
 two : e.kind = 2 → ∃ (i : Nat) (v : Ver), findV h.vs e.page e.slot = some i ∧ h.vs[i]? = some v ∧ isCm h v.fin = false
 fit : h.used + enSz e ≤ h.room
def HistOk (pages room : Nat) (es : List En) : Prop := ∀ (k : Nat) (e : En), es[k]? = some e → OkStep (replay pages room (es.take k)) e
theorem HistOk.take {pages room : Nat} {es : List En} (h : HistOk pages room es) (n : Nat) : HistOk pages room (es.take n) := by
  intro k e he
  rw [List.getElem?_take] at he
  split at he
  · rename_i hk
    have := h k e he
    rw [List.take_take]
    rwa [Nat.min_eq_left (by omega)]
  · cases he
theorem replay_snoc (pages room : Nat) (es : List En) (e : En) : replay pages room (es ++ [e]) = writeR (replay pages room es) e := by simp [replay, List.foldl_append]
theorem HistOk.snoc {pages room : Nat} {es : List En} {e : En} (h : HistOk pages room es) (he : OkStep (replay pages room es) e) : HistOk pages room (es ++ [e]) := by
  intro k x hx
  rw [List.getElem?_append] at hx
  split at hx
  · rename_i hk
    rw [List.take_append_of_le_length (by omega)]
    exact h k x hx
  · rename_i hk
    have hi2 : k - es.length = 0 := by
      rcases Nat.eq_zero_or_pos (k - es.length) with q | q
      · exact q
      · rw [List.getElem?_eq_none (by simp; omega)] at hx; cases hx
    rw [hi2] at hx
    simp at hx; subst hx
    have : k = es.length := by omega
    subst this
    rw [List.take_left']
    · exact he
    · rfl
theorem HistOk.last {pages room : Nat} {es : List En} {e : En} (h : HistOk pages room (es ++ [e])) : HistOk pages room es ∧ OkStep (replay pages room es) e := by
  constructor
  · have := h.take es.length
    rwa [List.take_left' rfl] at this
  · have := h es.length e (by simp)
    rwa [List.take_left' rfl] at this
abbrev cmOf (e : En) : Option (Int × Int) := if e.kind = 3 then some (e.txn, e.stamp) else none
structure RepOk (h : HR) : Prop where
 slots : Slots h.vs
 vok : ∀ v ∈ h.vs, v.page < h.pages ∧ v.data.length ≤ 184 ∧ (∃ e ∈ h.es, e.kind = 1 ∧ e.txn = v.beg) ∧ (v.fin = 0 ∨ ∃ e ∈ h.es, e.kind = 2 ∧ e.txn = v.fin)
 room : ∀ q, usedP h.vs q ≤ 256
 cm : h.cm = h.es.filterMap cmOf
 nd : (h.cm.map (·.1)).Nodup
 used : h.used = ((h.es.map enSz).sum : Nat)
 le : h.used ≤ h.room
 eok : ∀ e ∈ h.es, EnOk e
theorem isCm_iff {h : HR} {t : Int} : isCm h t = true ↔ ∃ s, (t, s) ∈ h.cm := by
 unfold isCm
 rw [List.contains_iff_mem]
 simp
theorem isCm_no {h : HR} {t : Int} : isCm h t = false ↔ ∀ s, (t, s) ∉ h.cm := by
 rw [← Bool.not_eq_true, isCm_iff]
 simp
theorem mem_modify {t : Int} : ∀ {vs : List Ver} {i : Nat} {u : Ver}, u ∈ vs.modify i (finV t) → u ∈ vs ∨ ∃ v ∈ vs, u = finV t v
  | [], i, u, h => by simp at h
  | v :: vs, 0, u, h => by
    simp at h
    rcases h with rfl | h
    · exact .inr ⟨v, by simp, rfl⟩
    · exact .inl (by simp [h])
  | v :: vs, i + 1, u, h => by
    simp at h
    rcases h with rfl | h
    · exact .inl (by simp)
    · rcases mem_modify h with h | ⟨v', h, e⟩
      · exact .inl (by simp [h])
      · exact .inr ⟨v', by simp [h], e⟩
theorem usedV_append (a b : List Ver) : usedV (a ++ b) = usedV a + usedV b := by simp [usedV]
theorem usedV_modify (t : Int) (q : Nat) : ∀ (vs : List Ver) (i : Nat), usedV (pageV (vs.modify i (finV t)) q) = usedV (pageV vs q)
 | [], i => by simp [pageV]
 | v :: vs, 0 => by simp [pageV, finV, List.filter_cons]; split <;> simp [usedV]
 | v :: vs, i + 1 => by
  have := usedV_modify t q vs i
  simp only [pageV, List.modify_succ_cons, List.filter_cons] at this ⊢
  split
  · simp only [usedV, List.map_cons, List.sum_cons] at this ⊢; rw [this]
  · exact this
theorem pages_len {h : HR} (r : RepOk h) (q : Nat) : 17 * (pageV h.vs q).length ≤ 243 := by
 have h1 := r.room q
 unfold usedP at h1
 have key : ∀ l : List Ver, 17 * l.length ≤ usedV l := fun l => by
  induction l with
  | nil => simp [usedV]
  | cons a l ih => simp [usedV] at ih ⊢; omega
 have := key (pageV h.vs q)
 omega
theorem RepOk.new (pages room : Nat) : RepOk (newR pages room) := ⟨fun i v h => by simp [newR] at h, by simp [newR], fun q => by simp [newR, usedP, pageV, usedV], rfl, by simp [newR], by simp [newR], by simp [newR], by simp [newR]⟩
theorem kinds {e : En} (h : EnOk e) : e.kind = 1 ∨ e.kind = 2 ∨ e.kind = 3 := by have := h.kind; omega
theorem OkStep.congr {h g : HR} {e : En} (s : OkStep h e) (h1 : g.pages = h.pages) (h2 : g.room = h.room) (h3 : g.used = h.used) (h4 : g.vs = h.vs) (h5 : g.cm = h.cm) : OkStep g e := by
 obtain ⟨a, b, c, d, f⟩ := s
 have e1 : ∀ t, isCm g t = isCm h t := fun t => by unfold isCm; rw [h5]
 exact ⟨a, by rw [e1]; exact b, by rw [h1, h4]; exact c, by rw [h4]; simp only [e1]; exact d, by rw [h2, h3]; exact f⟩
theorem RepOk.write {h : HR} {e : En} (r : RepOk h) (s : OkStep h e) : RepOk (writeR h e) := by
  have hk := kinds s.ok
  refine ⟨?_, ?_, ?_, ?_, ?_, ?_, ?_, ?_⟩
  · unfold writeR
    rcases hk with k | k | k <;> simp only [k, if_true, reduceIte, show ¬ (2 : Int) = 1 by omega, show ¬ (3 : Int) = 1 by omega, show ¬ (3 : Int) = 2 by omega]
    · exact r.slots.snoc (by have := (s.one k).2.1; dsimp only; omega)
    · obtain ⟨i, v, h1, h2, _⟩ := s.two k
      rw [h1]; exact r.slots.modify i _
    · exact r.slots
  · unfold writeR
    intro v hv
    rcases hk with k | k | k <;> simp only [k, if_true, reduceIte, show ¬ (2 : Int) = 1 by omega, show ¬ (3 : Int) = 1 by omega, show ¬ (3 : Int) = 2 by omega] at hv ⊢
    · rcases List.mem_append.1 hv with hv | hv
      · obtain ⟨a, b, ⟨x, hx, c⟩, d⟩ := r.vok v hv
        exact ⟨a, b, ⟨x, by simp [hx], c⟩, d.imp id fun ⟨y, hy, q⟩ => ⟨y, by simp [hy], q⟩⟩
      · simp at hv; subst hv
        obtain ⟨a, b, c, d⟩ := s.one k
        have := s.ok.place
        exact ⟨by dsimp only; omega, c, ⟨e, by simp, k, rfl⟩, .inl rfl⟩
    · obtain ⟨i, u, h1, h2, _⟩ := s.two k
      rw [h1] at hv
      rcases mem_modify hv with hv | ⟨u, hu, rfl⟩
      · obtain ⟨a, b, ⟨x, hx, c⟩, d⟩ := r.vok v hv
        exact ⟨a, b, ⟨x, by simp [hx], c⟩, d.imp id fun ⟨y, hy, q⟩ => ⟨y, by simp [hy], q⟩⟩
      · obtain ⟨a, b, ⟨x, hx, c⟩, d⟩ := r.vok u hu
        exact ⟨a, b, ⟨x, by simp [hx], c⟩, .inr ⟨e, by simp, k, rfl⟩⟩
    · obtain ⟨a, b, ⟨x, hx, c⟩, d⟩ := r.vok v hv
      exact ⟨a, b, ⟨x, by simp [hx], c⟩, d.imp id fun ⟨y, hy, q⟩ => ⟨y, by simp [hy], q⟩⟩
  · unfold writeR
    intro q
    rcases hk with k | k | k <;> simp only [k, if_true, reduceIte, show ¬ (2 : Int) = 1 by omega, show ¬ (3 : Int) = 1 by omega, show ¬ (3 : Int) = 2 by omega]
    · obtain ⟨a, b, c, d⟩ := s.one k
      have hq := r.room q
      unfold usedP at hq d ⊢
      rw [pageV_append, usedV_append]
      by_cases e1 : e.page.toNat = q
      · subst e1
        simp [pageV, usedV] at d ⊢; omega
      · simp [pageV, usedV, e1] at hq ⊢; omega
    · obtain ⟨i, v, h1, h2, _⟩ := s.two k
      rw [h1]; unfold usedP; rw [usedV_modify]; exact r.room q
    · exact r.room q
  · unfold writeR
    dsimp only
    rw [List.filterMap_append, r.cm]
    by_cases k : e.kind = 3 <;> simp [k, cmOf]
  · unfold writeR
    dsimp only
    have hn := isCm_no.1 s.cm
    split
    · rw [List.map_append, List.nodup_append]
      refine ⟨r.nd, by simp, fun a ha b hb e1 => ?_⟩
      simp at hb; subst hb; subst e1
      obtain ⟨p, hp, q⟩ := List.mem_map.1 ha
      exact hn p.2 (by rw [← q]; exact hp)
    · exact r.nd
  · unfold writeR
    dsimp only
    rw [r.used]; simp
  · unfold writeR
    exact s.fit
  · unfold writeR
    intro x hx
    rcases List.mem_append.1 hx with hx | hx
    · exact r.eok x hx
    · simp at hx; subst hx; exact s.ok
theorem replay_es (pages room : Nat) (es : List En) : (replay pages room es).es = es ∧ (replay pages room es).pages = pages ∧ (replay pages room es).room = room ∧ (replay pages room es).act = [] ∧ (replay pages room es).last = 0 := by
 induction es using snocI with
 | nil => simp [replay, newR]
 | snoc es e ih => rw [replay_snoc]; simp [writeR, ih]
theorem RepOk.replay {pages room : Nat} {es : List En} (h : HistOk pages room es) : RepOk (replay pages room es) := by
 induction es using snocI with
 | nil => exact RepOk.new pages room
 | snoc es e ih =>
  rw [replay_snoc]
  exact (ih h.last.1).write h.last.2
structure RInv (h : HR) : Prop where
 hist : HistOk h.pages h.room h.es
 rvs : (replay h.pages h.room h.es).vs = h.vs
 rcm : (replay h.pages h.room h.es).cm = h.cm
 rus : (replay h.pages h.room h.es).used = h.used
 actcm : ∀ t ∈ h.act, isCm h t = false
 lst : ∀ e ∈ h.es, e.txn ≤ h.last
 act1 : ∀ t ∈ h.act, 1 ≤ t ∧ t ≤ h.last
 last0 : 0 ≤ h.last
theorem RepOk.congr {h g : HR} (r : RepOk h) (h1 : h.pages = g.pages) (h2 : h.room = g.room) (h3 : h.vs = g.vs) (h4 : h.cm = g.cm) (h5 : h.used = g.used) (h6 : h.es = g.es) : RepOk g := ⟨by rw [← h3]; exact r.slots, by rw [← h1, ← h3, ← h6]; exact r.vok, by rw [← h3]; exact r.room, by rw [← h4, ← h6]; exact r.cm, by rw [← h4]; exact r.nd, by rw [← h5, ← h6]; exact r.used, by rw [← h5, ← h2]; exact r.le, by rw [← h6]; exact r.eok⟩
theorem RInv.ok {h : HR} (r : RInv h) : RepOk h := by
 obtain ⟨a, b, c, d, e⟩ := replay_es h.pages h.room h.es
 exact (RepOk.replay r.hist).congr b c r.rvs r.rcm r.rus a
theorem RInv.cms {h : HR} (r : RInv h) {t : Int} (ht : isCm h t = true) : 1 ≤ t ∧ t ≤ h.last := by
 obtain ⟨s, hs⟩ := isCm_iff.1 ht
 rw [r.ok.cm] at hs
 obtain ⟨e, he, h2⟩ := List.mem_filterMap.1 hs
 have := r.lst e he
 have := (r.ok.eok e he).txn
 unfold cmOf at h2
 split at h2
 · simp at h2; omega
 · cases h2
theorem RInv.write {h : HR} {e : En} (r : RInv h) (s : OkStep h e) (h1 : e.txn ≤ h.last) (h3 : e.kind = 3 → e.txn ∉ h.act) : RInv (writeR h e) := by
  obtain ⟨q1, q2, q3, q4, q5⟩ := replay_es h.pages h.room h.es
  have s' : OkStep (replay h.pages h.room h.es) e := s.congr q2 q3 r.rus r.rvs r.rcm
  refine ⟨r.hist.snoc s', ?_, ?_, ?_, fun t ht => ?_, fun x hx => ?_, r.act1, r.last0⟩
  · show (replay h.pages h.room (h.es ++ [e])).vs = _
    rw [replay_snoc]; unfold writeR; dsimp only; rw [r.rvs]
  · show (replay h.pages h.room (h.es ++ [e])).cm = _
    rw [replay_snoc]; unfold writeR; dsimp only; rw [r.rcm]
  · show (replay h.pages h.room (h.es ++ [e])).used = _
    rw [replay_snoc]; unfold writeR; dsimp only; rw [r.rus]
  · have h4 := r.actcm t ht
    rw [isCm_no] at h4 ⊢
    intro q hq
    unfold writeR at hq
    dsimp only at hq
    split at hq
    · rename_i k
      rcases List.mem_append.1 hq with hq | hq
      · exact h4 q hq
      · simp at hq
        exact h3 k (by rw [← hq.1]; exact ht)
    · exact h4 q hq
  · unfold writeR at hx
    rcases List.mem_append.1 hx with hx | hx
    · exact r.lst x hx
    · simp at hx; subst hx; exact h1
theorem RInv.newR (pages room : Nat) : RInv (newR pages room) := ⟨fun k e he => by simp [Go.Proofs.YtiooeiapplnafaaGreatDoor.newR] at he, rfl, rfl, rfl, by simp [Go.Proofs.YtiooeiapplnafaaGreatDoor.newR], by simp [Go.Proofs.YtiooeiapplnafaaGreatDoor.newR], by simp [Go.Proofs.YtiooeiapplnafaaGreatDoor.newR], by simp [Go.Proofs.YtiooeiapplnafaaGreatDoor.newR]⟩
theorem RInv.begin {h : HR} (r : RInv h) : RInv (beginR h) := by
  refine ⟨r.hist, r.rvs, r.rcm, r.rus, fun t ht => ?_, fun e he => ?_, fun t ht => ?_, ?_⟩
  · rcases List.mem_append.1 ht with ht | ht
    · exact r.actcm t ht
    · simp at ht; subst ht
      show isCm h (h.last + 1) = false
      cases hc : isCm h (h.last + 1) with
      | false => rfl
      | true => have := r.cms hc; omega
  · have := r.lst e he; show e.txn ≤ h.last + 1; omega
  · have := r.last0
    show 1 ≤ t ∧ t ≤ h.last + 1
    rcases List.mem_append.1 ht with ht | ht
    · have := r.act1 t ht; omega
    · simp at ht; omega
  · have := r.last0; show 0 ≤ h.last + 1; omega
theorem RInv.without {h : HR} (r : RInv h) (t : Int) : RInv (withoutR h t) := by
 refine ⟨r.hist, r.rvs, r.rcm, r.rus, fun u hu => ?_, r.lst, fun u hu => ?_, r.last0⟩
 · exact r.actcm u (mem_of_filt hu)
 · exact r.act1 u (mem_of_filt hu)
theorem isAct_iff {h : HR} {t : Int} : isAct h t = true ↔ t ∈ h.act := by unfold isAct; rw [List.contains_iff_mem]
theorem RInv.abort {h : HR} (r : RInv h) (t : Int) : RInv (abortR h t).1 := by
 unfold abortR
 split
 · exact r.without t
 · exact r
theorem roomy_some {h : HR} {n q : Nat} (hq : roomyP h n = some q) : q < h.pages ∧ usedP h.vs q + 17 + n ≤ 256 ∧ ∀ j, j < q → ¬ usedP h.vs j + 17 + n ≤ 256 := by
 unfold roomyP at hq
 obtain ⟨h1, i, hi, h2, h3⟩ := List.find?_eq_some_iff_getElem.1 hq
 simp at hi h2
 subst h2
 refine ⟨hi, by simpa using h1, fun j hj => ?_⟩
 have := h3 j hj
 simpa using this
theorem roomy_none {h : HR} {n : Nat} (hq : roomyP h n = none) : ∀ j, j < h.pages → ¬ usedP h.vs j + 17 + n ≤ 256 := by
 intro j hj
 unfold roomyP at hq
 have := List.find?_eq_none.1 hq j (by simpa using hj)
 simpa using this
theorem roomy_of {h : HR} {n q : Nat} (h1 : q < h.pages) (h2 : usedP h.vs q + 17 + n ≤ 256) (h3 : ∀ j, j < q → ¬ usedP h.vs j + 17 + n ≤ 256) : roomyP h n = some q := by
 cases hr : roomyP h n with
 | none => exact absurd h2 (roomy_none hr q h1)
 | some p =>
  obtain ⟨a, b, c⟩ := roomy_some hr
  rcases Nat.lt_trichotomy p q with k | k | k
  · exact absurd b (h3 p k)
  · rw [k]
  · exact absurd h2 (c q k)
theorem roomy_no {h : HR} {n : Nat} (h3 : ∀ j, j < h.pages → ¬ usedP h.vs j + 17 + n ≤ 256) : roomyP h n = none := by
 cases hr : roomyP h n with
 | none => rfl
 | some p => obtain ⟨a, b, c⟩ := roomy_some hr; exact absurd b (h3 p a)
theorem RInv.addStep {h : HR} (r : RInv h) (hp : h.pages ≤ 4096) (hl : h.last < 2 ^ 62) {t : Int} {d : List UInt8} {q : Nat} (ht : isAct h t = true) (hd : d.length ≤ 184) (hq : q < h.pages) (hu : usedP h.vs q + 17 + d.length ≤ 256) (hf : h.used + 20 + d.length ≤ h.room) : OkStep h (addE h t d q) := by
 have h1 := r.act1 t (isAct_iff.1 ht)
 have h2 := pages_len r.ok q
 refine ⟨⟨by simp, by simp; omega, by simp only [enPlace]; omega, by simp, by simp, by simp, by simp, by simp; omega⟩, r.actcm t (isAct_iff.1 ht), fun _ => ⟨by simp only; omega, by simp, hd, by simpa using hu⟩, by simp, by rw [enSz_eq]; simp; omega⟩
theorem RInv.endStep {h : HR} (r : RInv h) (hp : h.pages ≤ 4096) (hl : h.last < 2 ^ 62) {t page slot : Int} {i : Nat} {v : Ver} (ht : isAct h t = true) (hi : findV h.vs page slot = some i) (hv : h.vs[i]? = some v) (hn : isCm h v.fin = false) (hf : h.used + 20 ≤ h.room) : OkStep h (endE t page slot) := by
 have h1 := r.act1 t (isAct_iff.1 ht)
 obtain ⟨u, hu, e1, e2⟩ := findV_some hi
 rw [hv] at hu; cases hu
 have h2 := r.ok.vok v (List.mem_of_getElem? hv)
 have h3 := pages_len r.ok v.page
 have h4 := (List.getElem?_eq_some_iff.1 (page_at r.ok.slots hv)).1
 refine ⟨⟨by simp, by simp; omega, by simp only [enPlace]; omega, by simp, by simp, by simp, by simp, by simp⟩, r.actcm t (isAct_iff.1 ht), by simp, fun _ => ⟨i, v, hi, hv, hn⟩, by rw [enSz_eq]; simp; omega⟩
theorem RInv.cmStep {h : HR} (r : RInv h) (hl : h.last < 2 ^ 62) {t stamp : Int} (ht : isAct h t = true) (hb : badStamp h stamp = false) (hf : h.used + 25 ≤ h.room) : OkStep (withoutR h t) (cmE t stamp) := by
 have h1 := r.act1 t (isAct_iff.1 ht)
 have h2 : 0 ≤ stamp ∧ stamp ≤ 1099511627776 := by
  unfold badStamp at hb
  simp only [Bool.or_eq_false_iff, decide_eq_false_iff_not] at hb
  omega
 refine ⟨⟨by simp, by simp; omega, by simp [enPlace], by simpa using h2, by simp, by simp, by simp, by simp⟩, r.actcm t (isAct_iff.1 ht), by simp, by simp, by rw [enSz_eq, if_pos rfl]; exact hf⟩
theorem RInv.add {h : HR} (r : RInv h) (hp : h.pages ≤ 4096) (hl : h.last < 2 ^ 62) (t : Int) (d : List UInt8) : RInv (addR' h t d).1 := by
  unfold addR'
  split
  · rename_i ht
    split
    · exact r
    · rename_i hd
      split
      · exact r
      · rename_i q hq
        split
        · exact r
        · rename_i hf
          obtain ⟨a, b, _⟩ := roomy_some hq
          exact r.write (r.addStep hp hl ht (by omega) a b (by omega)) (r.act1 t (isAct_iff.1 ht)).2 (by simp)
  · exact r
theorem RInv.end_ {h : HR} (r : RInv h) (hp : h.pages ≤ 4096) (hl : h.last < 2 ^ 62) (t page slot : Int) : RInv (endR h t page slot).1 := by
  unfold endR
  split
  · rename_i ht
    split
    · exact r
    · rename_i v hv
      split
      · exact r
      · rename_i hc
        split
        · exact r
        · split
          · exact r
          · cases hf : findV h.vs page slot with
            | none => rw [hf] at hv; cases hv
            | some i =>
              rw [hf] at hv
              have hn : isCm h v.fin = false := by
                cases hq : isCm h v.fin with
                | false => rfl
                | true => exact absurd (.inr (.inr hq)) hc
              exact r.write (r.endStep hp hl ht hf hv hn (by omega)) (r.act1 t (isAct_iff.1 ht)).2 (by simp)
  · exact r
theorem RInv.commit {h : HR} (r : RInv h) (hl : h.last < 2 ^ 62) (t stamp : Int) : RInv (commitR h t stamp).1 := by
  unfold commitR
  split
  · rename_i ht
    split
    · exact r
    · rename_i hb
      split
      · exact r
      · exact (r.without t).write (r.cmStep hl ht (by simpa using hb) (by omega)) (r.act1 t (isAct_iff.1 ht)).2 (fun _ => by simp [withoutR])
  · exact r
theorem pageV_fm_modify {h : HR} {t : Int} {q : Nat} : ∀ {vs : List Ver} {i : Nat} {v : Ver}, vs[i]? = some v → visV h (finV t v) = visV h v → (pageV (vs.modify i (finV t)) q).filterMap (visV h) = (pageV vs q).filterMap (visV h)
 | [], i, v, hv, _ => by simp at hv
 | u :: vs, 0, v, hv, e => by
  simp at hv; subst hv
  simp only [pageV, List.modify_zero_cons, List.filter_cons, show (finV t u).page = u.page from rfl]
  split
  · simp only [List.filterMap_cons, e]
  · rfl
 | u :: vs, i + 1, v, hv, e => by
  have ih := pageV_fm_modify (q := q) (vs := vs) (i := i) (by simpa using hv) e
  simp only [pageV, List.modify_succ_cons, List.filter_cons] at ih ⊢
  split
  · simp only [List.filterMap_cons, ih]
  · exact ih
theorem vis_congr {h g : HR} (h1 : g.act = h.act) (h2 : g.cm = h.cm) (v : Ver) : visV g v = visV h v := by
 unfold visV isAct isCm; rw [h1, h2]
theorem all_write {h : HR} {e : En} (s : OkStep h e) (ha : h.act = []) (hk : e.kind ≠ 3) : allR (writeR h e) = allR h := by
  have hc : (writeR h e).cm = h.cm := by simp [writeR, hk]
  have hact : ∀ t, isAct h t = false := fun t => by simp [isAct, ha]
  unfold allR
  show (List.range h.pages).flatMap _ = _
  congr 1
  funext q
  have ev : visV (writeR h e) = visV h := funext fun v => vis_congr (g := writeR h e) (h := h) rfl hc v
  rw [ev]
  rcases kinds s.ok with k | k | k
  · have : (writeR h e).vs = h.vs ++ [⟨e.page.toNat, e.slot.toNat, e.txn, 0, e.data⟩] := by simp [writeR, k]
    rw [this, pageV_append, List.filterMap_append]
    have : (pageV [(⟨e.page.toNat, e.slot.toNat, e.txn, 0, e.data⟩ : Ver)] q).filterMap (visV h) = [] := by
      rw [List.filterMap_eq_nil_iff]
      intro v hv
      have := mem_of_filt hv
      simp at this; subst this
      unfold visV
      rw [if_pos ⟨hact _, s.cm⟩]
    rw [this, List.append_nil]
  · obtain ⟨i, v, h1, h2, h3⟩ := s.two k
    have : (writeR h e).vs = h.vs.modify i (finV e.txn) := by simp [writeR, k, h1]
    rw [this]
    refine pageV_fm_modify h2 ?_
    unfold visV finV
    dsimp only
    split
    · rfl
    · rw [if_pos ⟨hact _, s.cm⟩, if_pos ⟨hact _, h3⟩]
  · exact absurd k hk
theorem lastE_le : ∀ (es : List En) (m : Int), m ≤ es.foldl (fun m e => max m e.txn) m ∧ ∀ e ∈ es, e.txn ≤ es.foldl (fun m e => max m e.txn) m
 | [], m => by simp
 | x :: es, m => by
  obtain ⟨h1, h2⟩ := lastE_le es (max m x.txn)
  simp only [List.foldl_cons]
  refine ⟨by omega, fun e he => ?_⟩
  rcases List.mem_cons.1 he with rfl | he
  · omega
  · exact h2 e he
end Go.Proofs.YtiooeiapplnafaaGreatDoor
