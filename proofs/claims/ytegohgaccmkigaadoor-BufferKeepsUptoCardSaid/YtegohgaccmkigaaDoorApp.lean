/- The builtin append on a slice that the program owns (nil, or the head of a row of its own), of whatever source: what is behind it, in the words of Lib. Conditions: bounds on the new length. -/
import Derived.Test.YtegohgaccmkigaaDoorLib
import Derived.Deep.AppendSrc
import Derived.Laws.IdiomStrings
import Derived.Laws.BytesArg
set_option linter.unusedSimpArgs false
set_option linter.unusedVariables false
namespace Go.Proofs.YtegohgaccmkigaaDoor
open Go.RowKit

/-- Slice type t has elements of type e, of so many cells and bytes. -/
structure ElemOk (P : Program) (t e : TypeId) (size bytes : Nat) : Prop where
  ht : P.underlying t = some (.slice e)
  ex : ∃ i z, P.info? e = some i ∧ i.zero = some z ∧ i.size = size ∧ i.bytes = bytes ∧ z.cells.size = size
  pos : 0 < size

theorem ElemOk.mk' {P : Program} {t e : TypeId} {size bytes : Nat} (z : Value) (ht : P.underlying t = some (.slice e)) (h : (P.info? e).map (fun i => (i.zero, i.size, i.bytes)) = some (some z, size, bytes)) (hz : z.cells.size = size) (hp : 0 < size) : ElemOk P t e size bytes := by
  obtain ⟨i, h1, h2, h3, h4⟩ := info_parts h
  exact ⟨ht, ⟨i, z, h1, h2, h3, h4, hz⟩, hp⟩

structure AppPost (base : Nat) (e : TypeId) (size : Nat) (v : Value) (n : Nat) (xs : List Value) (m : Nat) (news : List Value) (w : World) (v' : Value) (w' : World) : Prop where
  own : w'.ownsRow base e size v' (n + m) (xs ++ news)
  kept : Kept v.ownBlock.toList w w'
  blk : ∀ g, v'.ownBlock = some g → v.ownBlock = some g ∨ g = w.heap.size
  isNil : v' = .slice none 0 0 ↔ v = .slice none 0 0 ∧ m = 0
  nothing : m = 0 → v' = v ∧ w' = w

theorem AppPost.slice {base : Nat} {e : TypeId} {size : Nat} {v : Value} {n : Nat} {xs : List Value} {m : Nat} {news : List Value} {w : World} {v' : Value} {w' : World}
    (h : AppPost base e size v n xs m news w v' w') (hp : 0 < n + m) : ∃ g cap, v' = .slice (some ⟨g, 0, none⟩) (n + m) cap ∧ (v.ownBlock = some g ∨ g = w.heap.size) ∧ g < w'.heap.size := by
  rcases h.own.2 with ⟨_, h0⟩ | ⟨g, cap, cur, rfl, _, hg, _⟩
  · omega
  · exact ⟨g, cap, rfl, h.blk g rfl, lt_of_block hg⟩

section
variable {P : Program}

theorem setCells_nil (w : World) (b o : Nat) : w.setCells b o [] = w := rfl

theorem setCells_row (P : Program) (w : World) (g : Nat) (e : TypeId) (vs : List Value) (off : Nat) (cur : Array Value) (hg : w.heap[g]? = some (.cells cur e (0, 0))) (hfit : off + vs.length ≤ cur.size) (h1 : ∀ u ∈ vs, u.oneCell' = true) :
    w.setCells g off vs = w.setRow g (splice cur.toList off vs).toArray := by
  have hst := run_storeCells_at P g off e vs 0 cur w hg (by simpa using hfit) h1
  have hsc := run_storeCells_cells (P := P) g off vs 0 w (fun j hj => by rw [cell_of_row w g _ cur e (0, 0) hg]; simp; omega) (fun j hj => frozen_of_row w g _ cur e hg) h1
  rw [hst] at hsc
  simp only [Nat.add_zero, Result.ok.injEq, true_and] at hsc
  rw [← hsc]
  unfold splice
  rw [List.append_assoc]

theorem run_append_k {t tx ty e : TypeId} {size bytes base : Nat} (E : ElemOk P t e size bytes) (w : World) {v : Value} {n : Nat} {xs : List Value} (hown : w.ownsRow base e size v n xs)
    {x : Value} {m : Nat} {news : List Value} (hs : Src P size tx x m news w) (h63 : n + m ≤ maxLen) (hbytes : (n + m) * bytes ≤ 140737488355328) (hbase : base ≤ w.heap.size) :
    ∃ v' w', (Builtin.append_ #[t, tx] ty #[v, x]).run P w = .ok v' w' ∧ AppPost base e size v n xs m news w v' w' := by
  obtain ⟨i, z, hi, hz, hsz, hby, hzs⟩ := E.ex
  subst hsz
  subst hby
  have hsmall : n + m ≤ 9223372036854775807 := by simp only [maxLen] at h63; omega
  have hlen : (xs ++ news).length = (n + m) * i.size := by rw [List.length_append, hown.1, hs.newsLen, Nat.add_mul]
  have grown : ∀ (old : Nat), old < n + m →
      (w.drew.alloc (.cells ((xs ++ news).toArray ++ Builtin.zeroCells z.cells (grownCap w (n + m) old e - (n + m))) e)).ownsRow base e i.size
        (.slice (some ⟨w.heap.size, 0, none⟩) (n + m) (grownCap w (n + m) old e)) (n + m) (xs ++ news) := by
    intro old ho
    have hge := grownCap_ge w (n + m) old e
    have hcm : grownCap w (n + m) old e ≤ maxLen := grownCap_le_maxLen w (n + m) old e h63
    refine ⟨hlen, .inr ⟨w.heap.size, _, _, rfl, hbase, heap_alloc_new w.drew _, hge, hcm, ?_, ?_⟩⟩
    · rw [Array.size_append, List.size_toArray, size_zeroCells, hzs, hlen, ← Nat.add_mul]
      congr 1
      omega
    · rw [Array.toList_append, ← hlen]
      exact List.take_left
  rcases hown.2 with ⟨rfl, rfl⟩ | ⟨g, cap, cur, rfl, hbg, hg, hnc, hcm, hcs, htake⟩
  · have hx : xs = [] := List.eq_nil_of_length_eq_zero (by simpa using hown.1)
    subst hx
    by_cases hm : m = 0
    · subst hm
      have hn : news = [] := List.eq_nil_of_length_eq_zero (by simpa using hs.newsLen)
      subst hn
      refine ⟨.slice none 0 0, w, ?_, ⟨World.ownsRow_nil w base e i.size, Kept.refl _ _, by simp [Value.ownBlock], by simp, fun _ => ⟨rfl, rfl⟩⟩⟩
      rcases hs.kind with ⟨e', hk⟩ | hk <;> simp [Builtin.append_, run_underlying E.ht, run_underlying hk, sizeOf, typeInfo, hi, hs.len, hs.cells, storeCells]
    · have hr := run_append_grow_src (P := P) w t tx ty e i z E.ht hi hz none 0 0 [] (run_firstCells_none w.drew i.size 0 0 0) x m news hs (by omega) (by omega) (growslice_fits (by omega) hbytes)
      have hgr := grown 0 (by omega)
      exact ⟨_, _, hr, ⟨hgr, (Kept.refl _ _).drew.alloc _, fun g hg => .inr (by simpa [Value.ownBlock] using hg.symm), by simp [hm], fun h => absurd h hm⟩⟩
  · by_cases hroom : n + m ≤ cap
    · have hfit : n * i.size + news.length ≤ cur.size := by rw [hs.newsLen, hcs, ← Nat.add_mul]; exact Nat.mul_le_mul_right _ hroom
      have hr := run_append_room_src (P := P) w t tx ty e i E.ht hi g 0 n cap x m news hs hroom
        (fun j hj => by rw [cell_of_row w g _ cur e (0, 0) hg]; simp; omega) (fun j hj => frozen_of_row w g _ cur e hg)
      rw [Nat.zero_add] at hr
      rw [setCells_row P w g e news (n * i.size) cur hg hfit hs.one] at hr
      refine ⟨_, _, hr, ⟨⟨hlen, .inr ⟨g, cap, _, rfl, hbg, setRow_heap w g cur _ e _ hg, hroom, hcm, ?_, ?_⟩⟩, (Kept.refl _ _).setRow (by simp [Value.ownBlock]) _, fun k hk => .inl hk, by simp, ?_⟩⟩
      · rw [List.size_toArray, length_splice _ _ _ (by simpa using hfit)]; simpa using hcs
      · unfold splice
        simp only [htake]
        rw [← List.append_assoc, ← hlen]
        exact List.take_left
      · intro hm
        subst hm
        have hn : news = [] := List.eq_nil_of_length_eq_zero (by simpa using hs.newsLen)
        subst hn
        refine ⟨rfl, ?_⟩
        rw [← setCells_row P w g e [] (n * i.size) cur hg hfit (by simp)]; rfl
    · have holds : ∀ j u, xs[j]? = some u → w.cell? ((⟨g, 0, none⟩ : Addr).add j) = some u := hown.cells (g := g) rfl
      have hf := run_firstCells_some (P := P) w.drew i.size n ⟨g, 0, none⟩ n cap xs hown.1 (by simpa using holds)
      have hr := run_append_grow_src (P := P) w t tx ty e i z E.ht hi hz (some ⟨g, 0, none⟩) n cap xs hf x m news hs (by omega) (by omega) (growslice_fits (by omega) hbytes)
      exact ⟨_, _, hr, ⟨grown cap (by omega), (Kept.refl _ _).drew.alloc _, fun k hk => .inr (by simpa [Value.ownBlock] using hk.symm), by simp, fun hm => by omega⟩⟩

theorem wp_append_k {o : Oper} {a : Act} {K : Act → World → Prop} {Q : Exit → Act → World → Prop} {w : World} {base : Nat} {e : TypeId} {size bytes : Nat} (s y : Operand) (t tx : TypeId)
    (ho : o.op = .call { callee := .builtin .append, args := #[s, y], argTypes := #[t, tx] }) (E : ElemOk P t e size bytes)
    {v : Value} {n : Nat} {xs : List Value} (hv : a.eval s = v) (hown : w.ownsRow base e size v n xs) {x : Value} {m : Nat} {news : List Value} (hx : a.eval y = x) (hs : Src P size tx x m news w)
    (h63 : n + m ≤ maxLen) (hbytes : (n + m) * bytes ≤ 140737488355328) (hbase : base ≤ w.heap.size)
    (h : ∀ v' w', AppPost base e size v n xs m news w v' w' → K (a.put o.dst v') w') : o.wp P a w K Q := by
  obtain ⟨v', w', hr, hp⟩ := run_append_k (ty := o.type) E w hown hs h63 hbytes hbase
  unfold Oper.wp execOp
  simp only [ho, resolve, invoke, builtin, Sem.run_bind, Sem.run_pure, Result.andThen_ok, List.map_toArray, List.map_cons, List.map_nil, hv, hx, hr]
  exact h v' w' hp

theorem wpList_append_k {ops : Array Oper} {rest : List Oper} {o : Oper} {a : Act} {Q : Exit → Act → World → Prop} {w : World} {base : Nat} {e : TypeId} {size bytes : Nat} (hgd : o.guard = none) (s y : Operand) (t tx : TypeId)
    (ho : o.op = .call { callee := .builtin .append, args := #[s, y], argTypes := #[t, tx] }) (E : ElemOk P t e size bytes)
    {v : Value} {n : Nat} {xs : List Value} (hv : a.eval s = v) (hown : w.ownsRow base e size v n xs) {x : Value} {m : Nat} {news : List Value} (hx : a.eval y = x) (hs : Src P size tx x m news w)
    (h63 : n + m ≤ maxLen) (hbytes : (n + m) * bytes ≤ 140737488355328) (hbase : base ≤ w.heap.size)
    (h : ∀ v' w', AppPost base e size v n xs m news w v' w' → wpList P ops Q rest (a.put o.dst v') w') : wpList P ops Q (o :: rest) a w :=
  wpList_plain hgd fun _ hK => wp_append_k s y t tx ho E hv hown hx hs h63 hbytes hbase fun v' w' hp => hK _ _ (h v' w' hp)

/-- A source that reads as so many one-cell elements. -/
theorem Src.ofReads {tx e' : TypeId} (hk : P.underlying tx = some (.slice e')) {w : World} {v : Value} {cs : List Value} {fp : List Nat} (h : Reads w v cs fp) (h1 : ∀ u ∈ cs, u.oneCell' = true) : Src P 1 tx v cs.length cs w := by
  obtain ⟨a, cap, rfl, h | ⟨b, o, rfl, hr, _⟩⟩ := h
  · subst h
    cases a with
    | none => exact Src.ofNil w hk cap
    | some a => exact Src.ofSlice w hk a 0 cap [] (by simp) (by simp) (by simp)
  · exact Src.ofSlice w hk ⟨b, o, none⟩ _ cap cs (by simp) (fun j u hj => by rw [Addr.add_mid]; exact hr j u hj) h1

/-- A source that is a whole new block. -/
theorem Src.ofBlock {tx e' : TypeId} {size : Nat} (hk : P.underlying tx = some (.slice e')) {w : World} {g : Nat} {C : List Value} {t : TypeId} {fr : Nat × Nat} (hg : w.heap[g]? = some (.cells C.toArray t fr)) (n c : Nat) (hl : C.length = n * size) (h1 : ∀ u ∈ C, u.oneCell' = true) :
    Src P size tx (.slice (some ⟨g, 0, none⟩) n c) n C w :=
  Src.ofSlice w hk ⟨g, 0, none⟩ n c C hl (cells_from hg 0 C (by simp)) h1

/-- A source that is an owned row. -/
theorem Src.ofOwns {tx e' : TypeId} {size base : Nat} {e : TypeId} (hk : P.underlying tx = some (.slice e')) {w : World} {v : Value} {n : Nat} {xs : List Value} (h : w.ownsRow base e size v n xs) (h1 : ∀ u ∈ xs, u.oneCell' = true) : Src P size tx v n xs w := by
  rcases h.2 with ⟨rfl, rfl⟩ | ⟨g, cap, cur, rfl, _, _, _⟩
  · have hx : xs = [] := List.eq_nil_of_length_eq_zero (by simpa using h.1)
    subst hx
    exact Src.ofNil w hk 0
  · exact Src.ofSlice w hk ⟨g, 0, none⟩ n cap xs h.1 (h.cells (g := g) rfl) h1

/-- An owned row's block: what it holds, and what more. -/
theorem owns_block {w : World} {base : Nat} {e : TypeId} {size : Nat} {g n cap : Nat} {xs : List Value} (h : w.ownsRow base e size (.slice (some ⟨g, 0, none⟩) n cap) n xs) :
    ∃ X, w.heap[g]? = some (.cells (xs ++ X).toArray e (0, 0)) := by
  rcases h.2 with ⟨h1, _⟩ | ⟨g', cap', cur, h1, hb, hg, _, _, hs, ht⟩
  · cases h1
  · injection h1 with h1 _ h2
    injection h1 with h1
    injection h1 with h1
    subst h1
    refine ⟨cur.toList.drop (n * size), ?_⟩
    rw [hg, ← ht, List.take_append_drop]

/-- 'T{}' of a slice type: an empty row of its own. -/
theorem wp_empty_k {o : Oper} {a : Act} {K : Act → World → Prop} {Q : Exit → Act → World → Prop} {w : World} {e : TypeId} {size bytes : Nat} (t : TypeId) (ho : o.op = .buildSlice t 0 #[]) (E : ElemOk P t e size bytes)
    (h : ∀ g W, W.ownsRow 0 e size (.slice (some ⟨g, 0, none⟩) 0 0) 0 [] → Kept [] w W → g = w.heap.size → g < W.heap.size → K (a.put o.dst (.slice (some ⟨g, 0, none⟩) 0 0)) W) : o.wp P a w K Q := by
  obtain ⟨i, z, hi, hz, hsz, hby, hzs⟩ := E.ex
  have hr : (Instr.buildSlice t 0 #[]).run P w = .ok (.slice (some ⟨w.heap.size, 0, none⟩) 0 0) (w.alloc (.cells #[] e)) := by
    simp [Instr.buildSlice, run_underlying E.ht, sizeOf, typeInfo, hi, Instr.fill, newRow]
    congr 2
    apply Array.ext <;> simp
  unfold Oper.wp execOp
  simp only [ho, List.map_toArray, List.map_nil, Sem.run_bind, Sem.run_pure, Result.andThen_ok, hr]
  exact h _ _ (World.ownsRow_made w #[] 0 (Nat.zero_le _) (by unfold maxLen; omega) (by simp)) ((Kept.refl _ _).alloc _) rfl (by simp)

/-- A value goes into a block of its own. -/
theorem wp_box_k {o : Oper} {a : Act} {K : Act → World → Prop} {Q : Exit → Act → World → Prop} {w : World} (t : TypeId) (x : Operand) (ho : o.op = .box t x) (v : Value) (hx : a.eval x = v)
    (h : ∀ g W, W.heap[g]? = some (.cells v.cells t (0, 0)) → Kept [] w W → g = w.heap.size → K (a.put o.dst (.pointer (some ⟨g, 0, none⟩))) W) : o.wp P a w K Q := by
  have hr : (Instr.box t v).run P w = .ok (.pointer (some ⟨w.heap.size, 0, none⟩)) (w.alloc (.cells v.cells t)) := by
    simp [Instr.box, newVar, newRow]
  unfold Oper.wp execOp
  simp only [ho, hx, Sem.run_bind, Sem.run_pure, Result.andThen_ok, hr]
  exact h _ _ (heap_alloc_new w _) ((Kept.refl _ _).alloc _) rfl

/-- The string of bytes; a name of its own, so that no simp looks in. -/
def strOf (l : List UInt8) : ByteArray := ⟨l.toArray⟩
theorem strOf_inj {l m : List UInt8} (h : strOf l = strOf m) : l = m := by
  unfold strOf at h
  injection h with h
  have := congrArg Array.toList h
  simpa using this
theorem size_strOf (l : List UInt8) : (strOf l).size = l.length := by unfold strOf; simp [ByteArray.size]
theorem strOf_beq (l m : List UInt8) : (strOf l == strOf m) = decide (l = m) := by
  have h1 : (strOf l == strOf m) = (l.toArray == m.toArray) := rfl
  rw [h1]
  by_cases h : l = m
  · subst h; simp
  · simp [h]

/-- 'string(b)'. -/
theorem run_string_of {P : Program} (w : World) (src dst e : TypeId) (hs : P.underlying src = some (.slice e)) (he : P.underlying e = some (.int .u8)) (hd : P.underlying dst = some .string) {v : Value} {l : List UInt8} {fp : List Nat}
    (h : Reads w v (bytesV l) fp) : (convert src dst v).run P w = .ok (.string (strOf l)) w := by
  obtain ⟨a, cap, rfl, h | ⟨b, o, rfl, hr, _⟩⟩ := h
  · have hl : l = [] := by simpa [bytesV] using h
    subst hl
    cases a with
    | none =>
      have := run_convert_bytes_string (P := P) w src dst e none 0 cap hs he hd
      rw [show (bytesV []).length = 0 from rfl, this]
      simp [Conv.bytesToString, strOf]
      rfl
    | some a =>
      exact run_convert_bytes_back w src dst e a cap [] hs he hd (by simp)
  · rw [length_bytesV]
    exact run_convert_bytes_back w src dst e ⟨b, o, none⟩ cap l hs he hd (fun j hj => by rw [Addr.add_mid]; exact hr j _ (by simp [bytesV, hj]))

theorem wrap_u8 (x : Int) : ∃ u : UInt8, IntKind.u8.wrap x = (u.toNat : Int) := by
  refine ⟨UInt8.ofNat (x % 256).toNat, ?_⟩
  have h1 : 0 ≤ x % 256 := Int.emod_nonneg _ (by omega)
  have h2 : x % 256 < 256 := Int.emod_lt_of_pos _ (by omega)
  rw [UInt8.toNat_ofNat', Nat.mod_eq_of_lt (by omega)]
  simp [IntKind.wrap, IntKind.bits, IntKind.signed]
  omega

theorem owns_cap {w : World} {base : Nat} {e : TypeId} {size n cap : Nat} {p : Option Addr} {xs : List Value} (h : w.ownsRow base e size (.slice p n cap) n xs) : n ≤ cap := by
  rcases h.2 with ⟨h1, h2⟩ | ⟨g', cap', cur, h1, _, _, hc, _⟩
  · injection h1; omega
  · injection h1; omega

theorem reads_of_block {w : World} {g n cap : Nat} {C Y : List Value} {t : TypeId} {fr : Nat × Nat} (h : w.heap[g]? = some (.cells (C ++ Y).toArray t fr)) (hn : C.length = n) : Reads w (.slice (some ⟨g, 0, none⟩) n cap) C [g] := by
  subst hn
  refine ⟨_, cap, rfl, .inr ⟨g, 0, rfl, fun j v hv => ?_, by simp⟩⟩
  have := cells_from h 0 C (by simp) j v hv
  rwa [Addr.add_mid] at this
end
end Go.Proofs.YtegohgaccmkigaaDoor
