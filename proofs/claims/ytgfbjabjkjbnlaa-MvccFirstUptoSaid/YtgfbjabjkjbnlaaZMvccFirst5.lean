/- The law MvccFirst of annalslaw12 holds: for all arguments of bulk at most 1048576 the call returns true and the arguments read as before. Condition: the bound of the second form. -/
import Derived.Test.YtgfbjabjkjbnlaaZMvccFirst4
/- The manager and the document's side by side: plain laws. Conditions: as each says. -/
set_option linter.unusedSimpArgs false
set_option linter.unusedVariables false
namespace Go.Proofs.Ytgfbjabjkjbnlaa
open Go.RowKit

/-- The same, as far as it is told. -/
structure Sim (m : Mg) (r : Rm) : Prop where
  now : m.now = r.now
  last : m.last = r.last
  begun : m.begun = r.begun
  ids : m.T.map (fun x => (x.id, x.snap)) = r.T.map fun x => (x.id, x.snap)
  ks : ∀ (i : Nat) (x : Tx) (y : Rt), m.T[i]? = some x → r.T[i]? = some y → ∀ k, k ∈ x.ks.map (·.1) ↔ k ∈ y.q.ks
  wr : ∀ (s : Int), 0 ≤ s → ∀ k, s < (lookL m.W k).getD 0 ↔ ∃ h ∈ r.H, s < h.stamp ∧ k ∈ h.q.ks
theorem Sim.len {m : Mg} {r : Rm} (h : Sim m r) : m.T.length = r.T.length := by
  have := congrArg List.length h.ids
  simpa using this
theorem Sim.at_ {m : Mg} {r : Rm} (h : Sim m r) {i : Nat} {x : Tx} (hx : m.T[i]? = some x) : ∃ y, r.T[i]? = some y ∧ y.id = x.id ∧ y.snap = x.snap := by
  have := congrArg (·[i]?) h.ids
  simp only [List.getElem?_map, hx, Option.map_some] at this
  cases hy : r.T[i]? with
  | none => rw [hy] at this; cases this
  | some y => rw [hy] at this; simp at this; exact ⟨y, rfl, this.1.symm, this.2.symm⟩
theorem Sim.find {m : Mg} {r : Rm} (h : Sim m r) (t : Int) : (findT m.T t = none ∧ findR r.T t = -1) ∨ ∃ i x y, findT m.T t = some (i, x) ∧ findR r.T t = (i : Nat) ∧ m.T[i]? = some x ∧ r.T[i]? = some y ∧ x.id = t ∧ y.id = t ∧ y.snap = x.snap := by
  have e1 : (m.T.map (·.id)) = r.T.map (·.id) := by
    have := congrArg (List.map Prod.fst) h.ids
    rw [List.map_map, List.map_map] at this
    exact this
  have e2 : m.T.findIdx? (fun x => decide (x.id = t)) = r.T.findIdx? fun x => decide (x.id = t) := by
    have a1 := List.findIdx?_map (f := fun x : Tx => x.id) (p := fun a => decide (a = t)) (l := m.T)
    have a2 := List.findIdx?_map (f := fun x : Rt => x.id) (p := fun a => decide (a = t)) (l := r.T)
    rw [e1, a2] at a1
    exact a1.symm
  cases hf : findT m.T t with
  | none =>
    left
    refine ⟨rfl, ?_⟩
    have hno := (findT_none hf).2
    unfold findR
    rw [← e2, List.findIdx?_eq_none_iff.2 fun x hx => by simpa using hno x hx]
  | some q =>
    obtain ⟨i, x⟩ := q
    right
    obtain ⟨h1, h2, _⟩ := findT_some hf
    obtain ⟨y, hy, hy1, hy2⟩ := h.at_ h1
    refine ⟨i, x, y, rfl, ?_, h1, hy, h2, by rw [hy1, h2], hy2⟩
    unfold findT at hf
    unfold findR
    rw [← e2]
    split at hf
    · cases hf
    · rename_i j hj
      rw [hj]
      cases hm : m.T[j]? with
      | none => rw [hm] at hf; cases hf
      | some z => rw [hm] at hf; simp at hf; rw [hf.1]
theorem Sim.begin {m m' : Mg} {r : Rm} {x : Tx} (h : Sim m r) (hb : Begun m m' x) : Sim m' { r with begun := r.begun + 1, T := r.T ++ [⟨r.begun + 1, r.last, ⟨none, 0, []⟩⟩] } := by
  refine ⟨hb.now.trans h.now, hb.last.trans h.last, by rw [hb.begun, h.begun], ?_, fun i a b ha hb' k => ?_, fun s hs k => by rw [hb.W]; exact h.wr s hs k⟩
  · rw [hb.T, List.map_append, List.map_append, h.ids]
    simp [hb.id, hb.snap, h.begun, h.last]
  · rw [hb.T] at ha
    dsimp only at hb'
    rw [List.getElem?_append] at ha hb'
    rw [h.len] at ha
    split at ha
    · rename_i hlt
      rw [if_pos hlt] at hb'
      exact h.ks i a b ha hb' k
    · rename_i hlt
      rw [if_neg hlt] at hb'
      cases hi : i - r.T.length with
      | zero =>
        rw [hi] at ha hb'
        simp at ha hb'
        subst ha; subst hb'
        rw [hb.ks]
        simp
      | succ j => rw [hi] at ha; simp at ha
theorem mem_putL {L : List (Str × Int)} {k k' : Str} {v : Int} : k' ∈ (putL L k v).map (·.1) ↔ k' = k ∨ k' ∈ L.map (·.1) := by
  induction L with
  | nil => simp [putL]
  | cons p L ih =>
    unfold putL
    split
    · rename_i e
      simp only [List.map_cons, List.mem_cons, e]
      constructor
      · rintro (a | a)
        · exact .inl a
        · exact .inr (.inr a)
      · rintro (a | a | a)
        · exact .inl a
        · exact .inl a
        · exact .inr a
    · simp only [List.map_cons, List.mem_cons, ih]
      constructor
      · rintro (a | a | a)
        · exact .inr (.inl a)
        · exact .inl a
        · exact .inr (.inr a)
      · rintro (a | a | a)
        · exact .inr (.inl a)
        · exact .inl a
        · exact .inr (.inr a)
theorem mem_bumps {k : Str} : ∀ {ks : List Str} {L : List (Str × Int)}, k ∈ (bumps L ks).map (·.1) ↔ k ∈ L.map (·.1) ∨ k ∈ ks
  | [], L => by simp [bumps]
  | a :: ks, L => by
    have := mem_bumps (k := k) (ks := ks) (L := bump L a)
    show k ∈ (bumps (bump L a) ks).map (·.1) ↔ _
    rw [this, mem_putL, List.mem_cons]
    constructor
    · rintro ((h | h) | h)
      · exact .inr (.inl h)
      · exact .inl h
      · exact .inr (.inr h)
    · rintro (h | h | h)
      · exact .inl (.inr h)
      · exact .inl (.inl h)
      · exact .inr h
theorem Sim.write {m : Mg} {r r' : Rm} {Q Q' : List Kq} {t : Int} {ks : List Str} (h : Sim m r) (hw : rWrite r Q t ks r' Q') : Sim (writeM m t ks).1 r' ∧ (writeM m t ks).2 = if findR r.T t < 0 then 70 else 0 := by
  unfold rWrite at hw
  rcases h.find t with ⟨h1, h2⟩ | ⟨i, x, y, h1, h2, h3, h4, h5, h6, h7⟩
  · rw [if_pos (by omega)] at hw
    rw [writeM_no h1, if_pos (by omega), hw.1]
    exact ⟨h, rfl⟩
  · rw [if_neg (by omega)] at hw
    obtain ⟨i', y', q, e1, e2, e3, e4, e5, e6⟩ := hw
    obtain rfl : i = i' := by omega
    rw [h4] at e2; cases e2
    rw [writeM_at h1, if_neg (by omega), e5]
    have hil := (List.getElem?_eq_some_iff.1 h3).1
    have hil2 := (List.getElem?_eq_some_iff.1 h4).1
    refine ⟨⟨h.now, h.last, h.begun, ?_, fun j a b ha hb k => ?_, h.wr⟩, rfl⟩
    · dsimp only
      have a1 : (m.T.set i { x with ks := bumps x.ks ks }).map (fun x => (x.id, x.snap)) = m.T.map fun x => (x.id, x.snap) := by
        apply List.ext_getElem?
        intro j
        rw [List.getElem?_map, List.getElem?_map, List.getElem?_set]
        split
        · rename_i e; subst e; rw [h3]; rfl
        · rfl
      have a2 : (r.T.set i { y with q := q }).map (fun x => (x.id, x.snap)) = r.T.map fun x => (x.id, x.snap) := by
        apply List.ext_getElem?
        intro j
        rw [List.getElem?_map, List.getElem?_map, List.getElem?_set]
        split
        · rename_i e; subst e; rw [h4]; rfl
        · rfl
      rw [a1, a2]; exact h.ids
    · dsimp only at ha hb
      by_cases e : i = j
      · subst e
        rw [List.getElem?_set_self hil] at ha
        rw [List.getElem?_set_self hil2] at hb
        cases ha; cases hb
        dsimp only
        rw [mem_bumps, e3, List.mem_append, h.ks i x y h3 h4 k]
      · rw [List.getElem?_set_ne e] at ha hb
        exact h.ks j a b ha hb k
theorem drop_erase {T : List Tx} {t : Int} {i : Nat} {x : Tx} (hi : T[i]? = some x) (hx : x.id = t) (hs : (T.map (·.id)).Pairwise (· < ·)) : dropT T t = T.eraseIdx i := by
  induction T generalizing i with
  | nil => simp at hi
  | cons a T ih =>
    rw [List.map_cons, List.pairwise_cons] at hs
    cases i with
    | zero =>
      simp at hi; subst hi
      unfold dropT
      rw [List.filter_cons_of_neg (by simp [hx])]
      simp only [List.eraseIdx_cons_zero]
      rw [List.filter_eq_self]
      intro b hb
      have := hs.1 b.id (List.mem_map_of_mem hb)
      simp
      omega
    | succ i =>
      simp at hi
      have hne : a.id ≠ t := by
        have := hs.1 x.id (List.mem_map_of_mem (List.mem_of_getElem? hi))
        omega
      have := ih hi hs.2
      unfold dropT at this ⊢
      rw [List.filter_cons_of_pos (by simpa using hne), this]
      rfl
theorem erase_get {α : Type} (l : List α) (i j : Nat) : (l.eraseIdx i)[j]? = if j < i then l[j]? else l[j + 1]? := List.getElem?_eraseIdx ..
theorem Sim.drop {m m' : Mg} {r : Rm} {t : Int} {i : Nat} {x : Tx} (h : Sim m r) (hI : MInv m) (hf : findT m.T t = some (i, x)) (hT : m'.T = dropT m.T t) : m'.T.map (fun x => (x.id, x.snap)) = (r.T.eraseIdx i).map (fun x => (x.id, x.snap)) ∧ ∀ (j : Nat) (a : Tx) (b : Rt), m'.T[j]? = some a → (r.T.eraseIdx i)[j]? = some b → ∀ k, k ∈ a.ks.map (·.1) ↔ k ∈ b.q.ks := by
  obtain ⟨h1, h2, _⟩ := findT_some hf
  rw [drop_erase h1 h2 hI.ids] at hT
  rw [hT]
  refine ⟨by rw [map_erase, map_erase, h.ids], fun j a b ha hb k => ?_⟩
  rw [erase_get] at ha hb
  split at ha
  · rename_i hlt; rw [if_pos hlt] at hb; exact h.ks j a b ha hb k
  · rename_i hlt; rw [if_neg hlt] at hb; exact h.ks (j + 1) a b ha hb k
end Go.Proofs.Ytgfbjabjkjbnlaa

/- The statement MvccFirst: lists of keys that grow, what is known of the script so far. Conditions: sizes; that what is handed in can be read. -/
set_option linter.unusedSimpArgs false
set_option linter.unusedVariables false
namespace Go.Proofs.Ytgfbjabjkjbnlaa
open Go.RowKit

theorem po_take {Q : List Kq} {i : Nat} {q : Kq} (hi : Q[i]? = some q) {l : List Assn} {h : Piece} (H : Has (poS Q :: l) h) : Has (row (kqV q) 9 1 q.ks.length (q.ks.map kT) :: poS (Q.eraseIdx i) :: l) h := by
  have := sep_take (L := Q.map fun q => row (kqV q) 9 1 q.ks.length (q.ks.map kT)) (i := i) (A := row (kqV q) 9 1 q.ks.length (q.ks.map kT)) (by rw [List.getElem?_map, hi]; rfl) H
  unfold poS
  rw [map_erase]
  exact this
theorem po_put {Q : List Kq} {i : Nat} (q : Kq) (hi : i < Q.length) {l : List Assn} {h : Piece} (H : Has (row (kqV q) 9 1 q.ks.length (q.ks.map kT) :: poS (Q.eraseIdx i) :: l) h) : Has (poS (Q.set i q) :: l) h := by
  unfold poS at H ⊢
  rw [map_erase] at H
  have := sep_put (L := Q.map fun q => row (kqV q) 9 1 q.ks.length (q.ks.map kT)) (i := i) (by simpa using hi) H
  rw [List.map_set]
  exact this
theorem Own.po_take {B : Base} {w : World} {L r : List Assn} {Q : List Kq} {i : Nat} {q : Kq} (hi : Q[i]? = some q) (H : Own B w L) [k2 : TakeA (poS Q) L r] : Own B w (row (kqV q) 9 1 q.ks.length (q.ks.map kT) :: poS (Q.eraseIdx i) :: r) := H.map fun h K => @Go.Proofs.Ytgfbjabjkjbnlaa.po_take Q i q hi r h (k2.take _ K)
theorem Own.po_put {B : Base} {w : World} {L r r2 : List Assn} {Q : List Kq} {i : Nat} (q : Kq) (hi : i < Q.length) (H : Own B w L) [k1 : TakeA (row (kqV q) 9 1 q.ks.length (q.ks.map kT)) L r] [k2 : TakeA (poS (Q.eraseIdx i)) r r2] : Own B w (poS (Q.set i q) :: r2) := H.map fun h K => @Go.Proofs.Ytgfbjabjkjbnlaa.po_put Q i q hi r2 h (Has.cons_imp k2.take (k1.take _ K))

theorem Own.po_nil {B : Base} {w : World} {L r : List Assn} {Q : List Kq} (H : Own B w L) [k2 : TakeA (poS Q) L r] : Own B w (poS (Q ++ [⟨none, 0, []⟩]) :: r) := by
  have h1 : Own B w (poS Q :: r) := H.map fun h K => k2.take _ K
  have h2 := h1.row_nil 9 1
  exact h2.map fun h K => @Go.Proofs.Ytgfbjabjkjbnlaa.po_push Q ⟨none, 0, []⟩ r h K

set_option maxHeartbeats 1000000 in
theorem Mx.shares (B : Base) (S : List Assn) (pa : Option Addr) (na ca : Nat) (a : List Str) (pb : Option Addr) (nb cb : Nat) (b : List Str) (ha : RdV B S (.slice pa na ca) (a.map kT)) (hb : RdV B S (.slice pb nb cb) (b.map kT)) (hna : a.length = na) (hnb : b.length = nb) (h1 : na < 2 ^ 32) (h2 : nb < 2 ^ 32) : Fn Try.prog B 14 #[.slice pa na ca, .slice pb nb cb] S (fun u l => u = .bool (sharesB a b) ∧ l = S) := by
 refine Fn.enter2 26 Try.func14 rfl rfl (Nat.le_of_ble_eq_true rfl) (fun F => ?_)
 try simp only [List.cons_append, List.nil_append]
 refine T.seq ?_
 refine T.region ?_
 refine LW.q rfl (Qt.assign rfl) ?_
 refine LW.done ?_
 refine T.seq ?_
 refine T.seq ?_
 refine T.region ?_
 refine LW.q rfl (Qt.move rfl) ?_
 refine LW.q rfl (Qt.len (e := 9) (sz := 1) (by kernel_rfl) rfl) ?_
 refine LW.q rfl (Qt.move rfl) ?_
 refine LW.done ?_
 refine T.block ?_
 refine T.loop (fun mz fz lz => ∃ (f0 : Fr) (i : Nat), (i ≤ na ∧ ∀ x ∈ a.take i, ∀ y ∈ b, x ≠ y) ∧ mz = na - i ∧ fz = (upd (upd (upd (upd (upd f0 0 (.slice pa na ca)) 1 (.slice pb nb cb)) 9 (.slice pa na ca)) 10 (.int .i64 na)) 11 (.int .i64 i)) ∧ lz = S ++ F) ?_ ?_
 · refine ⟨_, _, ⟨_, 0, ⟨Nat.zero_le _, by simp⟩, rfl, (updS rfl (updS rfl (updS rfl (updS rfl (updS rfl rfl))))), rfl⟩, Sub.any⟩
 ·
  rintro mz fz lz ⟨f0, i, ⟨hi, hno⟩, hmz, rfl, rfl⟩
  subst mz
  try simp only [List.cons_append, List.nil_append]
  refine T.seq ?_
  refine T.region ?_
  refine LW.q rfl (Qt.lss rfl rfl) ?_
  refine LW.done ?_
  refine T.seq ?_
  refine T.condP rfl (fun hlt => ?_) (fun hlt => ?_)
  ·
   obtain ⟨ab, ao, rfl, hca⟩ := ha.at (by omega)
   have hc1 := hca i (by simp; omega)
   simp only [List.getElem_map] at hc1
   obtain ⟨x, hx⟩ : ∃ x, x = a[i] := ⟨_, rfl⟩
   rw [← hx] at hc1
   clear hca
   refine T.skip ?_
   refine T.seq ?_
   refine T.block ?_
   refine T.seq ?_
   refine T.region ?_
   refine LW.q rfl (Qt.index _ (e := 9) (sz := 1) (by kernel_rfl) rfl rfl rfl (by omega)) ?_
   refine LW.q rfl (Qt.loadW (v := kT x) (by kernel_rfl) rfl (fun w ho => hc1 w (ho.map Sub.any))) ?_
   refine LW.q rfl (Qt.assign rfl) ?_
   refine LW.done ?_
   refine T.seq ?_
   refine T.region ?_
   refine LW.q rfl (Qt.move rfl) ?_
   refine LW.q rfl (Qt.len (e := 9) (sz := 1) (by kernel_rfl) rfl) ?_
   refine LW.q rfl (Qt.move rfl) ?_
   refine LW.done ?_
   refine T.block ?_
   refine T.loop (fun mz fz lz => ∃ (f0 : Fr) (j : Nat), (j ≤ nb ∧ ∀ y ∈ b.take j, x ≠ y) ∧ mz = nb - j ∧ fz = (upd (upd (upd (upd (upd (upd (upd (upd (upd f0 0 (.slice (some ⟨ab, ao, none⟩) na ca)) 1 (.slice pb nb cb)) 6 (kT x)) 9 (.slice (some ⟨ab, ao, none⟩) na ca)) 10 (.int .i64 na)) 11 (.int .i64 i)) 15 (.slice pb nb cb)) 16 (.int .i64 nb)) 17 (.int .i64 j)) ∧ lz = S ++ F) ?_ ?_
   · refine ⟨_, _, ⟨_, 0, ⟨Nat.zero_le _, by simp⟩, rfl, (updS rfl (updS rfl (updS rfl (updS rfl (updS rfl (updS rfl (updS rfl (updS rfl (updS rfl rfl))))))))), rfl⟩, Sub.any⟩
   ·
    rintro mz fz lz ⟨f0, j, ⟨hj, hno2⟩, hmz, rfl, rfl⟩
    subst mz
    try simp only [List.cons_append, List.nil_append]
    refine T.seq ?_
    refine T.region ?_
    refine LW.q rfl (Qt.lss rfl rfl) ?_
    refine LW.done ?_
    refine T.seq ?_
    refine T.condP rfl (fun hlt2 => ?_) (fun hlt2 => ?_)
    ·
     obtain ⟨bb, bo, rfl, hcb⟩ := hb.at (by omega)
     have hc2 := hcb j (by simp; omega)
     simp only [List.getElem_map] at hc2
     obtain ⟨y, hy⟩ : ∃ y, y = b[j] := ⟨_, rfl⟩
     rw [← hy] at hc2
     refine T.skip ?_
     refine T.seq ?_
     refine T.block ?_
     refine T.seq ?_
     refine T.region ?_
     refine LW.q rfl (Qt.index _ (e := 9) (sz := 1) (by kernel_rfl) rfl rfl rfl (by omega)) ?_
     refine LW.q rfl (Qt.loadW (v := kT y) (by kernel_rfl) rfl (fun w ho => hc2 w (ho.map Sub.any))) ?_
     refine LW.q rfl (Qt.assign rfl) ?_
     refine LW.done ?_
     refine T.seq ?_
     refine T.region ?_
     refine LW.q rfl (Qt.move rfl) ?_
     refine LW.q rfl (Qt.move rfl) ?_
     refine LW.q rfl (Qt.eqlS rfl rfl) ?_
     refine LW.done ?_
     refine T.condP rfl (fun he => ?_) (fun he => ?_)
     ·
      have hr : sharesB a b = true := by
       unfold sharesB
       rw [List.any_eq_true]
       exact ⟨x, by rw [hx]; exact List.getElem_mem _, by rw [List.any_eq_true]; exact ⟨y, by rw [hy]; exact List.getElem_mem _, by simpa using he⟩⟩
      refine T.seq ?_
      refine T.region ?_
      refine LW.q rfl (Qt.assign rfl) ?_
      refine LW.done ?_
      refine T.ret ?_
      exact ⟨.inl rfl, _, _, res [_] rfl ⟨rvT rfl, trivial⟩, ⟨by rw [hr]; rfl, rfl⟩, Sub.any⟩
     ·
      refine T.skip ?_
      refine T.region ?_
      refine LW.q rfl (Qt.add rfl rfl (wr64 (by omega) (by omega))) ?_
      refine LW.q rfl (Qt.move rfl) ?_
      refine LW.done ?_
      refine ⟨_, ?_, _, ⟨_, j + 1, ⟨by omega, fun z hz => by rw [List.take_succ_eq_append_getElem (by omega)] at hz; rcases List.mem_append.1 hz with h | h; exact hno2 z h; simp at h; rw [h, ← hy]; exact he⟩, rfl, (updS rfl (updS rfl (updS rfl (updS rfl (updS rfl (updS rfl (updS rfl (updS rfl (updS rfl rfl))))))))), rfl⟩, Sub.any⟩
      first | omega | (simp; omega)
    ·
     obtain rfl : nb = j := by omega
     refine T.exit ?_
     refine T.region ?_
     refine LW.q rfl (Qt.add rfl rfl (wr64 (by omega) (by omega))) ?_
     refine LW.q rfl (Qt.move rfl) ?_
     refine LW.done ?_
     refine ⟨_, ?_, _, ⟨_, i + 1, ⟨by omega, fun z hz => by rw [List.take_succ_eq_append_getElem (by omega)] at hz; rcases List.mem_append.1 hz with h | h; exact hno z h; simp at h; rw [h, ← hx]; rw [← hnb, List.take_length] at hno2; exact hno2⟩, rfl, (updS rfl (updS rfl (updS rfl (updS rfl (updS rfl rfl))))), rfl⟩, Sub.any⟩
     first | omega | (simp; omega)
  ·
   obtain rfl : na = i := by omega
   have hr : sharesB a b = false := by
    unfold sharesB
    rw [List.any_eq_false]
    intro x hx
    rw [← hna, List.take_length] at hno
    simp only [List.any_eq_true, decide_eq_true_eq, not_exists, not_and]
    exact fun y hy => hno x hx y hy
   refine T.exit ?_
   refine T.seq ?_
   refine T.region ?_
   refine LW.q rfl (Qt.assign rfl) ?_
   refine LW.done ?_
   refine T.ret ?_
   exact ⟨.inl rfl, _, _, res [_] rfl ⟨rvT rfl, trivial⟩, ⟨by rw [hr]; rfl, rfl⟩, Sub.any⟩

structure Fd where
  t : Nat
  q : Kq
  n : Int
abbrev fdC (d : Fd) : List Value := [.int .i64 0, .int .i64 d.t, kqV d.q, .int .i64 d.n]
structure FOk (m : Mg) (S : List Int) (K : List Kq) (D : List Fd) (N k : Nat) : Prop where
  inv : MInv m
  lenS : S.length = K.length
  beg : (K.length : Int) = m.begun + 1
  tx : ∀ x ∈ m.T, ∃ (t : Nat) (q : Kq), x.id = (t : Int) ∧ K[t]? = some q ∧ S[t]? = some x.snap ∧ ∀ s, s ∈ x.ks.map (·.1) ↔ s ∈ q.ks
  dn : ∀ d ∈ D, K[d.t]? = some d.q ∧ (∀ x ∈ m.T, x.id ≠ (d.t : Int)) ∧ ∀ s ∈ d.q.ks, d.n ≤ (lookL m.W s).getD 0
  ptr : ∀ q ∈ K, (0 < q.ks.length → ∃ g, q.p = some ⟨g, 0, none⟩) ∧ q.ks.length ≤ N
  nK : K.length ≤ k + 1
  nD : D.length ≤ k
  nT : m.T.length ≤ k
theorem FOk.mono {m : Mg} {S : List Int} {K : List Kq} {D : List Fd} {N k N' k' : Nat} (h : FOk m S K D N k) (h1 : N ≤ N') (h2 : k ≤ k') : FOk m S K D N' k' := ⟨h.inv, h.lenS, h.beg, h.tx, h.dn, fun q hq => ⟨(h.ptr q hq).1, by have := (h.ptr q hq).2; omega⟩, by have := h.nK; omega, by have := h.nD; omega, by have := h.nT; omega⟩
theorem FOk.begin {m m' : Mg} {x : Tx} {S : List Int} {K : List Kq} {D : List Fd} {N k : Nat} (h : FOk m S K D N k) (hb : Begun m m' x) : FOk m' (S ++ [m.last]) (K ++ [⟨none, 0, []⟩]) D N (k + 1) := by
  have hlS := h.lenS
  have hbeg := h.beg
  refine ⟨hb.inv, by simp [hlS], by rw [hb.begun]; simp; omega, fun y hy => ?_, fun d hd => ?_, fun q hq => ?_, by have := h.nK; simp; omega, by have := h.nD; omega, by have := h.nT; rw [hb.T]; simp; omega⟩
  · rw [hb.T] at hy
    rcases List.mem_append.1 hy with hy | hy
    · obtain ⟨t, q, h1, h2, h3, h4⟩ := h.tx y hy
      have hl := (List.getElem?_eq_some_iff.1 h2).1
      exact ⟨t, q, h1, by rw [List.getElem?_append_left hl]; exact h2, by rw [List.getElem?_append_left (by omega)]; exact h3, h4⟩
    · simp at hy; subst hy
      refine ⟨K.length, ⟨none, 0, []⟩, by rw [hb.id]; omega, by simp, by rw [← hlS, hb.snap]; simp, fun s => by rw [hb.ks]; simp⟩
  · obtain ⟨h1, h2, h3⟩ := h.dn d hd
    have hl := (List.getElem?_eq_some_iff.1 h1).1
    refine ⟨by rw [List.getElem?_append_left hl]; exact h1, fun y hy => ?_, fun s hs => by rw [hb.W]; exact h3 s hs⟩
    rw [hb.T] at hy
    rcases List.mem_append.1 hy with hy | hy
    · exact h2 y hy
    · simp at hy; subst hy; rw [hb.id]; omega
  · rcases List.mem_append.1 hq with hq | hq
    · exact h.ptr q hq
    · simp at hq; subst hq; exact ⟨fun h => by simp at h, Nat.zero_le _⟩
theorem FOk.tick {m m' : Mg} {n : Int} {S : List Int} {K : List Kq} {D : List Fd} {N k : Nat} (h : FOk m S K D N k) (hb : Ticked m m' n) : FOk m' S K D N (k + 1) :=
  ⟨hb.inv, h.lenS, by rw [hb.begun]; exact h.beg, by rw [hb.T]; exact h.tx, by rw [hb.T, hb.W]; exact h.dn, h.ptr, by have := h.nK; omega, by have := h.nD; omega, by have := h.nT; rw [hb.T]; omega⟩
theorem txn_eq {m : Mg} (hI : MInv m) {x y : Tx} (hx : x ∈ m.T) (hy : y ∈ m.T) (e : x.id = y.id) : x = y := by
  obtain ⟨i, h1⟩ := findT_of hI hx
  obtain ⟨j, h2⟩ := findT_of hI hy
  rw [e, h2] at h1
  cases h1; rfl
theorem FOk.write {m : Mg} {t i : Nat} {x : Tx} {q : Kq} {p : Option Addr} {c : Nat} {ks : List Str} {S : List Int} {K : List Kq} {D : List Fd} {N k : Nat} (h : FOk m S K D N k) (hI : MInv (writeM m t ks).1) (hf : findT m.T t = some (i, x)) (hq : K[t]? = some q) (hp : 0 < (q.ks ++ ks).length → ∃ g, p = some ⟨g, 0, none⟩) :
    FOk (writeM m t ks).1 S (K.set t ⟨p, c, q.ks ++ ks⟩) D (N + ks.length) (k + 1) := by
  obtain ⟨h1, h2, _⟩ := findT_some hf
  have hxm := List.mem_of_getElem? h1
  have hbw := write_begun m t ks
  have htl := (List.getElem?_eq_some_iff.1 hq).1
  have hT : (writeM m t ks).1.T = m.T.set i { x with ks := bumps x.ks ks } := by rw [writeM_at hf]
  have hW : (writeM m t ks).1.W = m.W := by rw [writeM_at hf]
  refine ⟨hI, by simp [h.lenS], by rw [hbw.1]; simpa using h.beg, fun y hy => ?_, fun d hd => ?_, fun r hr => ?_, by have := h.nK; simp; omega, by have := h.nD; omega, by have := h.nT; rw [hT]; simp; omega⟩
  · rw [hT] at hy
    rcases mem_set_of' hy with rfl | hy0
    · obtain ⟨t', q', e1, e2, e3, e4⟩ := h.tx x hxm
      obtain rfl : t' = t := by omega
      rw [hq] at e2; cases e2
      exact ⟨t', _, h2, by rw [List.getElem?_set_self htl], e3, fun s => by dsimp only; rw [mem_bumps, e4, List.mem_append]⟩
    · by_cases e : y.id = (t : Int)
      · have hyx : y = x := txn_eq h.inv hy0 hxm (by rw [e, h2])
        obtain ⟨t', q', e1, e2, e3, e4⟩ := h.tx x hxm
        obtain rfl : t' = t := by omega
        obtain ⟨j, hj⟩ := List.mem_iff_getElem?.1 hy
        rw [hq] at e2; cases e2
        subst hyx
        by_cases hij : i = j
        · subst hij
          rw [List.getElem?_set_self (List.getElem?_eq_some_iff.1 h1).1] at hj
          have hk : y.ks = bumps y.ks ks := (congrArg Tx.ks (Option.some.inj hj)).symm
          exact ⟨t', _, e1, by rw [List.getElem?_set_self htl], e3, fun s => by dsimp only; rw [hk, mem_bumps, e4, List.mem_append]⟩
        · exfalso
          rw [List.getElem?_set_ne hij] at hj
          have hids := h.inv.ids
          have hjl := (List.getElem?_eq_some_iff.1 hj).1
          have hil := (List.getElem?_eq_some_iff.1 h1).1
          have hji : m.T[j].id = m.T[i].id := by rw [(List.getElem?_eq_some_iff.1 hj).2, (List.getElem?_eq_some_iff.1 h1).2]
          rw [List.pairwise_iff_getElem] at hids
          rcases Nat.lt_or_gt_of_ne hij with hlt | hlt
          · have := hids i j (by simpa using hil) (by simpa using hjl) hlt; simp at this; omega
          · have := hids j i (by simpa using hjl) (by simpa using hil) hlt; simp at this; omega
      · obtain ⟨t', q', e1, e2, e3, e4⟩ := h.tx y hy0
        exact ⟨t', q', e1, by rw [List.getElem?_set_ne (by intro q; subst q; exact e e1)]; exact e2, e3, e4⟩
  · obtain ⟨g1, g2, g3⟩ := h.dn d hd
    have hne : t ≠ d.t := fun e => g2 x hxm (by rw [h2, e])
    refine ⟨by rw [List.getElem?_set_ne hne]; exact g1, fun y hy => ?_, fun s hs => by rw [hW]; exact g3 s hs⟩
    rw [hT] at hy
    rcases mem_set_of' hy with rfl | hy0
    · dsimp only; exact g2 x hxm
    · exact g2 y hy0
  · rcases mem_set_of' hr with rfl | hr
    · refine ⟨hp, ?_⟩
      have := (h.ptr q (List.mem_of_getElem? hq)).2
      dsimp only; rw [List.length_append]; omega
    · exact ⟨(h.ptr r hr).1, by have := (h.ptr r hr).2; omega⟩
/-- One that goes without a stamp of its own. -/
theorem FOk.drop {m m' : Mg} {t : Int} {S : List Int} {K : List Kq} {D : List Fd} {N k : Nat} (h : FOk m S K D N k) (hI : MInv m') (hT : m'.T = dropT m.T t) (hb : m'.begun = m.begun) (hW : ∀ s, (lookL m'.W s).getD 0 = (lookL m.W s).getD 0) : FOk m' S K D N (k + 1) :=
  ⟨hI, h.lenS, by rw [hb]; exact h.beg, fun x hx => h.tx x (by rw [hT] at hx; exact (List.mem_filter.1 hx).1), fun d hd => ⟨(h.dn d hd).1, fun x hx => (h.dn d hd).2.1 x (by rw [hT] at hx; exact (List.mem_filter.1 hx).1), fun s hs => by rw [hW]; exact (h.dn d hd).2.2 s hs⟩, h.ptr, by have := h.nK; omega, by have := h.nD; omega, by have := h.nT; rw [hT]; have := List.length_filter_le (fun x : Tx => decide (x.id ≠ t)) m.T; unfold dropT; omega⟩
/-- One that is done with a stamp. -/
theorem FOk.done {m m' : Mg} {t : Nat} {i : Nat} {x : Tx} {q : Kq} {st : Int} {S : List Int} {K : List Kq} {D : List Fd} {N k : Nat} (h : FOk m S K D N k) (hI : MInv m') (hf : findT m.T t = some (i, x)) (hq : K[t]? = some q) (hc : CommitOk m t st x m') (hst : m.last < st) : FOk m' S K (D ++ [⟨t, q, st⟩]) N (k + 1) := by
  obtain ⟨h1, h2, _⟩ := findT_some hf
  have hxm := List.mem_of_getElem? h1
  refine ⟨hI, h.lenS, by rw [hc.begun]; exact h.beg, fun y hy => h.tx y (by rw [hc.T] at hy; exact (List.mem_filter.1 hy).1), fun d hd => ?_, h.ptr, by have := h.nK; omega, by have := h.nD; simp; omega, by have := h.nT; rw [hc.T]; have := List.length_filter_le (fun x : Tx => decide (x.id ≠ (t : Int))) m.T; unfold dropT; omega⟩
  rcases List.mem_append.1 hd with hd | hd
  · obtain ⟨g1, g2, g3⟩ := h.dn d hd
    refine ⟨g1, fun y hy => g2 y (by rw [hc.T] at hy; exact (List.mem_filter.1 hy).1), fun s hs => ?_⟩
    rw [hc.W]
    split
    · have := h.inv.wr s; have := g3 s hs; omega
    · exact g3 s hs
  · simp at hd; subst hd
    refine ⟨hq, fun y hy => ?_, fun s hs => ?_⟩
    · rw [hc.T] at hy
      have := (List.mem_filter.1 hy).2
      simpa using this
    · dsimp only at hs ⊢
      obtain ⟨t', q', e1, e2, e3, e4⟩ := h.tx x hxm
      obtain rfl : t' = t := by omega
      rw [hq] at e2; cases e2
      rw [hc.W, if_pos ((e4 s).2 hs)]
      exact Int.le_refl _
/-- What is known where one commits. -/
theorem FOk.ofFind {m : Mg} {t : Int} {i : Nat} {x : Tx} {S : List Int} {K : List Kq} {D : List Fd} {N k : Nat} (h : FOk m S K D N k) (hf : findT m.T t = some (i, x)) : ∃ (n : Nat) (q : Kq), t = (n : Int) ∧ K[n]? = some q ∧ S[n]? = some x.snap ∧ (x.ks = [] ↔ q.ks = []) ∧ (∀ s, s ∈ x.ks.map (·.1) ↔ s ∈ q.ks) ∧ x.snap ≤ m.last := by
  obtain ⟨h1, h2, _⟩ := findT_some hf
  have hxm := List.mem_of_getElem? h1
  obtain ⟨n, q, e1, e2, e3, e4⟩ := h.tx x hxm
  refine ⟨n, q, by rw [← h2, e1], e2, e3, ⟨fun e => ?_, fun e => ?_⟩, e4, (h.inv.sn x hxm).2⟩
  · rw [e] at e4
    exact List.eq_nil_iff_forall_not_mem.2 fun s hs => by have := (e4 s).2 hs; simp at this
  · rw [e] at e4
    exact List.eq_nil_iff_forall_not_mem.2 fun s hs => by have := (e4 s.1).1 (List.mem_map_of_mem hs); simp at this
theorem FOk.apart {m : Mg} {x : Tx} {q : Kq} {S : List Int} {K : List Kq} {D : List Fd} {N k : Nat} (h : FOk m S K D N k) (hx : ∀ s, s ∈ x.ks.map (·.1) ↔ s ∈ q.ks) (hc : clashB m.W x.snap x.ks = false) {d : Fd} (hd : d ∈ D) (hn : x.snap < d.n) : sharesB d.q.ks q.ks = false := by
  unfold sharesB
  rw [List.any_eq_false]
  intro s hs hh
  rw [List.any_eq_true] at hh
  obtain ⟨y, hy, e⟩ := hh
  obtain rfl : s = y := by simpa using e
  obtain ⟨p, hp, rfl⟩ := List.mem_map.1 ((hx s).2 hy)
  have g3 := (h.dn d hd).2.2 p.1 hs
  unfold clashB at hc
  rw [List.any_eq_false] at hc
  have := hc p hp
  simp at this
  omega
theorem FOk.alone {m : Mg} {t : Int} {i : Nat} {x : Tx} {S : List Int} {K : List Kq} {D : List Fd} {N k : Nat} (h : FOk m S K D N k) (hf : findT m.T t = some (i, x)) (hs : x.snap = m.last) : (checkM m t).2 ≠ 120 := by
  unfold checkM; rw [hf]; dsimp only
  rw [no_clash (fun s => by rw [hs]; exact h.inv.wr s)]
  by_cases e : x.ks = []
  · rw [if_pos e]; simp
  · rw [if_neg e, if_neg (by simp)]
    by_cases e2 : 1099511627775 < max m.now (m.last + 1)
    · rw [if_pos e2]; simp
    · rw [if_neg e2]; simp
theorem FOk.bad {m m' : Mg} {t : Int} {S : List Int} {K : List Kq} {D : List Fd} {N k : Nat} (h : FOk m S K D N k) (hI : MInv m') (hc : commitP m t m') (hb : (checkM m t).2 ≠ 0) : FOk m' S K D N (k + 1) ∧ m'.last = m.last := by
  obtain ⟨h1, _, h3⟩ := hc
  by_cases e : (checkM m t).2 = 120
  · have := h1 e
    subst this
    exact ⟨h.drop hI rfl rfl fun _ => rfl, rfl⟩
  · have := h3 hb e
    subst this
    exact ⟨h.mono (Nat.le_refl _) (Nat.le_succ _), rfl⟩
theorem InQ.ofK {m : Mg} {S : List Int} {K : List Kq} {D : List Fd} {N k : Nat} (h : FOk m S K D N k) {t : Nat} {q : Kq} (hq : K[t]? = some q) : InQ K q := .inr ⟨List.mem_of_getElem? hq, (h.ptr q (List.mem_of_getElem? hq)).1⟩
theorem Mx.elemK : ElemOk Try.prog 27 28 1 24 := .mk' (.slice none 0 0) Try.underlying27 (by kernel_rfl) rfl (by omega)
theorem Mx.elemO : ElemOk Try.prog 22 30 4 48 := .mk' (.agg #[.int .i64 0, .int .i64 0, .slice none 0 0, .int .i64 0]) Try.underlying22 (by kernel_rfl) rfl (by omega)
theorem flat4 {T : List Fd} {i : Nat} {x : Fd} (h : T[i]? = some x) (j : Nat) (hj : j < 4) : (T.flatMap fdC)[0 + i * 4 + j]? = (fdC x)[j]? := by
  induction T generalizing i with
  | nil => simp at h
  | cons y R ih =>
    cases i with
    | zero =>
      simp at h; subst h
      rw [List.flatMap_cons, Nat.zero_mul, Nat.add_zero, Nat.zero_add, List.getElem?_append_left (by simpa [fdC] using hj)]
    | succ i =>
      have := ih (i := i) (by simpa using h)
      rw [List.flatMap_cons, List.getElem?_append_right (by simp [fdC]; omega), ← this]
      congr 1
      simp [fdC]; omega
end Go.Proofs.Ytgfbjabjkjbnlaa

/- The statement MvccPlays. Conditions: that what is handed in can be read; sizes. -/
set_option linter.unusedSimpArgs false
set_option linter.unusedVariables false
namespace Go.Proofs.Ytgfbjabjkjbnlaa
open Go.RowKit

theorem RmOk.mono {r : Rm} {Q : List Kq} {N N' : Nat} (h : RmOk r Q N) (hN : N ≤ N') : RmOk r Q N' := ⟨fun x hx => ⟨(h.T x hx).1, by have := (h.T x hx).2; omega⟩, fun x hx => ⟨(h.H x hx).1, by have := (h.H x hx).2; omega⟩⟩
theorem RmOk.begin {r : Rm} {Q : List Kq} {N : Nat} (h : RmOk r Q N) (a b c : Int) : RmOk { r with begun := a, T := r.T ++ [⟨b, c, ⟨none, 0, []⟩⟩] } Q N := ⟨fun x hx => by
  rcases List.mem_append.1 hx with hx | hx
  · exact h.T x hx
  · simp at hx; subst hx; exact ⟨.inl rfl, Nat.zero_le _⟩, h.H⟩
theorem RmOk.write {r r' : Rm} {Q Q' : List Kq} {N : Nat} {t : Int} {ks : List Str} (h : RmOk r Q N) (hw : rWrite r Q t ks r' Q') : RmOk r' Q' (N + ks.length) ∧ r'.T.length = r.T.length ∧ r'.H = r.H := by
  unfold rWrite at hw
  split at hw
  · obtain ⟨rfl, rfl⟩ := hw
    exact ⟨h.mono (Nat.le_add_right _ _), rfl, rfl⟩
  · obtain ⟨i, x, q, e1, e2, e3, e4, rfl, rfl⟩ := hw
    have hx := h.T x (List.mem_of_getElem? e2)
    refine ⟨⟨fun y hy => ?_, fun y hy => ?_⟩, by simp, rfl⟩
    · rcases mem_set_of' hy with rfl | hy
      · exact ⟨e4, by dsimp only; rw [e3, List.length_append]; omega⟩
      · have := h.T y hy
        exact ⟨this.1.mono fun z hz => List.mem_append_left _ hz, by omega⟩
    · have := h.H y hy
      exact ⟨this.1.mono fun z hz => List.mem_append_left _ hz, by omega⟩
end Go.Proofs.Ytgfbjabjkjbnlaa

/- The statement MvccPlays, the whole. Conditions: that what is handed in can be read; sizes. -/
set_option linter.unusedSimpArgs false
set_option linter.unusedVariables false
namespace Go.Proofs.Ytgfbjabjkjbnlaa
open Go.RowKit

theorem sum_take {α : Type} (f : α → Nat) : ∀ (l : List α) (k : Nat), ((l.take k).map f).sum ≤ (l.map f).sum
  | [], k => by simp
  | a :: l, 0 => by simp
  | a :: l, k + 1 => by simp only [List.take_succ_cons, List.map_cons, List.sum_cons]; have := sum_take f l k; omega
theorem sum_take_succ {α : Type} (f : α → Nat) {l : List α} {k : Nat} (h : k < l.length) : ((l.take (k + 1)).map f).sum = ((l.take k).map f).sum + f l[k] := by
  rw [List.take_succ_eq_append_getElem h, List.map_append, List.sum_append]; simp only [List.map_cons, List.map_nil, List.sum_cons, List.sum_nil, Nat.add_zero]
end Go.Proofs.Ytgfbjabjkjbnlaa

/- The statement MvccFirst. Conditions: that what is handed in can be read; sizes. -/
set_option linter.unusedSimpArgs false
set_option linter.unusedVariables false
namespace Go.Proofs.Ytgfbjabjkjbnlaa
open Go.RowKit

abbrev fsR (p : Option Addr) (n c : Nat) (S : List Int) : Assn := row (.slice p n c) 2 1 n (S.map kZ)
abbrev fkR (p : Option Addr) (n c : Nat) (K : List Kq) : Assn := row (.slice p n c) 28 1 n (K.map kqV)
abbrev fdR (p : Option Addr) (n c : Nat) (D : List Fd) : Assn := row (.slice p n c) 30 4 n (D.flatMap fdC)
theorem made_one {v z : Value} (h : v.cells = #[z]) : (madeCells v.cells (1 * 1)).toList = [z] := by
  rw [show v.cells = (List.replicate 1 z).toArray from h, made_replicate _ 1 _ (by omega)]
  rfl
set_option maxHeartbeats 16000000 in
set_option maxRecDepth 100000 in
theorem Mx.first (B : Base) (sv : Value) (sc : List OpM) (hsv : RoLM B sv sc) (hsl : sc.length ≤ 1048576) (hop : (sc.map fun o => o.keys.length).sum ≤ 1048576) : Fn Try.prog B 3 #[sv] [] (fun u l => u = .bool true ∧ l = []) := by
 obtain ⟨sa, scap, rfl, hsc⟩ := hsv
 refine Fn.enter1 172 Try.func3 rfl rfl (Nat.le_of_ble_eq_true rfl) (fun F => ?_)
 try simp only [List.cons_append, List.nil_append]
 refine T.seq ?_
 refine T.region ?_
 refine LW.q rfl (Qt.assign rfl) ?_
 refine LW.done ?_
 refine T.seq ?_
 refine T.seq ?_
 refine T.region ?_
 refine LW.e rfl (Ef.call (Mv.awake B) Try.func8 rfl rfl rfl ?_)
 rintro _ _ ⟨rfl, rfl⟩
 try simp only [List.cons_append, List.nil_append]
 first | refine LW.q rfl (Qt.notP rfl) ?_ | refine LW.q rfl (Qt.notB rfl) ?_
 refine LW.done ?_
 first | refine T.condF rfl ?_ | refine T.condPF rfl (by omega) ?_ | refine T.condBF rfl (by omega) ?_
 refine T.skip ?_
 refine T.seq ?_
 refine T.region ?_
 refine LW.e rfl (Ef.call (Mv.newP B 0 0 (by omega) (by omega)) Try.func9 rfl rfl rfl ?_)
 rintro _ _ ⟨g, m0, hI0, n0, l0, b0, hT0, hW0, rfl, rfl⟩
 try simp only [List.cons_append, List.nil_append]
 refine LW.q rfl (Qt.assign rfl) ?_
 refine LW.done ?_
 refine T.seq ?_
 refine T.region ?_
 refine LW.e rfl (Ef.make 1 (.int .i64 0) 8 Mv.elemZ (by kernel_rfl) rfl rfl rfl rfl (by omega) (by unfold maxLen; omega) ?_)
 rintro gs
 try simp only [List.cons_append, List.nil_append]
 rw [made_one (v := .int .i64 0) rfl, show [Value.int .i64 0] = List.map kZ [0] from rfl]
 refine LW.q rfl (Qt.assign rfl) ?_
 refine LW.done ?_
 refine T.seq ?_
 refine T.region ?_
 refine LW.e rfl (Ef.make 1 (.slice none 0 0) 24 Mx.elemK (by kernel_rfl) rfl rfl rfl rfl (by omega) (by unfold maxLen; omega) ?_)
 rintro gk
 try simp only [List.cons_append, List.nil_append]
 rw [made_one (v := .slice none 0 0) rfl, show [Value.slice none 0 0] = List.map kqV [⟨none, 0, []⟩] from rfl]
 refine LW.q rfl (Qt.assign rfl) ?_
 refine LW.done ?_
 refine T.seq ?_
 refine T.region ?_
 refine LW.q rfl (Qt.assign rfl) ?_
 refine LW.done ?_
 refine T.seq ?_
 refine T.region ?_
 refine LW.q rfl (Qt.assign rfl) ?_
 refine LW.done ?_
 refine T.seq ?_
 refine T.seq ?_
 refine T.region ?_
 refine LW.q rfl (Qt.move rfl) ?_
 refine LW.q rfl (Qt.len (e := 30) (sz := 4) (by kernel_rfl) rfl) ?_
 refine LW.q rfl (Qt.move rfl) ?_
 refine LW.done ?_
 refine T.block ?_
 have hF0 : FOk m0 [0] [⟨none, 0, []⟩] [] 0 0 := ⟨hI0, rfl, by rw [b0]; rfl, fun x hx => (by rw [hT0] at hx; cases hx), fun d hd => (by cases hd), fun q hq => (by simp at hq; subst hq; exact ⟨fun h => by simp at h, Nat.le_refl _⟩), Nat.le_refl _, Nat.le_refl _, by rw [hT0]; exact Nat.le_refl _⟩
 refine T.conv (l' := poS [⟨none, 0, []⟩] :: fdR none 0 0 [] :: _) (fun w ho => Own.map ((ho.row_nil 30 4).row_nil 9 1) fun h H => @Go.Proofs.Ytgfbjabjkjbnlaa.po_push [] ⟨none, 0, []⟩ _ h (Has.cons_imp (fun k K => sep_nil K) H)) ?_
 refine T.loop (fun mz fz lz => ∃ (f0 : Fr) (k : Nat) (m : Mg) (S : List Int) (K : List Kq) (D : List Fd) (N : Nat) (ps : Option Addr) (cs : Nat) (pk : Option Addr) (n ck : Nat) (pd : Option Addr) (nd cd : Nat) (la : Int), (k ≤ sc.length ∧ FOk m S K D N k ∧ N = ((sc.take k).map fun o => o.keys.length).sum ∧ K.length = n ∧ D.length = nd ∧ 0 ≤ la ∧ la = m.last) ∧ mz = sc.length - k ∧ fz = (upd (upd (upd (upd (upd (upd (upd (upd f0 3 (.pointer (some ⟨g, 0, none⟩))) 4 (.slice ps n cs)) 5 (.slice pk n ck)) 6 (.slice pd nd cd)) 7 (.int .i64 la)) 22 (.slice sa sc.length scap)) 23 (.int .i64 sc.length)) 24 (.int .i64 k)) ∧ lz = fsR ps n cs S :: fkR pk n ck K :: fdR pd nd cd D :: poS K :: mgB g m :: actA m :: wrA m :: ksA m.T :: F) ?_ ?_
 · refine ⟨_, _, ⟨_, 0, m0, [0], [⟨none, 0, []⟩], [], 0, some ⟨gs, 0, none⟩, 1, some ⟨gk, 0, none⟩, 1, 1, none, 0, 0, 0, ⟨Nat.zero_le _, hF0, rfl, rfl, rfl, Int.le_refl _, by rw [l0]; rfl⟩, rfl, (updS rfl (updS rfl (updS rfl (updS rfl (updS rfl (updS rfl (updS rfl (updS rfl rfl)))))))), rfl⟩, Sub.any⟩
 ·
  rintro mz fz lz ⟨f0, k, m, S, K, D, N, ps, cs, pk, n, ck, pd, nd, cd, la, ⟨hk, hF, hNs, hnk, hnd, hl0, hla⟩, hmz, rfl, rfl⟩
  subst mz
  try simp only [List.cons_append, List.nil_append]
  subst hla
  have hI := hF.inv
  have hnS := hF.lenS
  have hbeg := hF.beg
  have hK1 := hF.nK
  have hD1 := hF.nD
  have hT1 := hF.nT
  refine T.seq ?_
  refine T.region ?_
  refine LW.q rfl (Qt.lss rfl rfl) ?_
  refine LW.done ?_
  refine T.seq ?_
  refine T.condP rfl (fun hlt => ?_) (fun hlt => ?_)
  ·
   obtain ⟨kb, ko, C, rfl, hro, hC⟩ := hsc.resolve_left (by intro e; rw [e] at hlt; simp at hlt; omega)
   obtain ⟨da, dc, hrd, hdv⟩ := hC k (by omega)
   have hs1 := sum_take_succ (fun o : OpM => o.keys.length) (l := sc) (k := k) (by omega)
   have hs2 := sum_take (fun o : OpM => o.keys.length) sc (k + 1)
   obtain ⟨o, ho⟩ : ∃ o, sc[k] = o := ⟨_, rfl⟩
   rw [ho] at hrd hdv hs1
   refine T.skip ?_
   refine T.seq ?_
   refine T.block ?_
   refine T.seq ?_
   refine T.region ?_
   refine LW.q rfl (Qt.index _ (e := 30) (sz := 4) (by kernel_rfl) rfl rfl rfl (by omega)) ?_
   refine LW.q rfl (Qt.loadAgg [_, _, _, _] (by kernel_rfl) rfl hrd) ?_
   refine LW.e rfl (Ef.alloc [.int .i64 0, .int .i64 0, .slice none 0 0, .int .i64 0] (by unfold zeroB; kernel_rfl) ?_)
   intro g9
   refine LW.e0 rfl (Ef.store [_, _, _, _] (by kernel_rfl) rfl rfl rfl rfl (by simp) ?_)
   try simp only [splice, List.length_cons, List.length_nil, List.drop_succ_cons, List.cons_append, List.take_succ_cons, List.take_zero, List.drop_zero, List.nil_append, List.append_nil]
   refine LW.done ?_
   refine T.seq ?_
   refine T.region ?_
   refine LW.q rfl (Qt.fieldAddr0 (by kernel_rfl) rfl) ?_
   first | refine LW.q rfl (Qt.load (by kernel_rfl) rfl rfl) ?_ | refine LW.q rfl (Qt.load (by kernel_rfl) rfl (map_at _ _ _ (by omega))) ?_ | refine LW.q rfl (Qt.load (by kernel_rfl) rfl (flat_cell0 _ _ _ (by intros; rfl) _ (by omega) (by rfl))) ?_ | refine LW.q rfl (Qt.load (by kernel_rfl) rfl (flat_cell _ _ _ (by intros; rfl) _ _ (by omega) (by rfl))) ?_ | refine LW.q rfl (Qt.load (by kernel_rfl) rfl (bytes_at _ _ (by omega))) ?_
   refine LW.done ?_
   refine T.block ?_
   refine T.seq ?_
   refine T.region ?_
   refine LW.q rfl (Qt.eql rfl rfl) ?_
   refine LW.q rfl (Qt.assign rfl) ?_
   refine LW.done ?_
   refine T.condP rfl (fun k0 => ?_) (fun k0 => ?_)
   ·
    refine T.seq ?_
    refine T.region ?_
    refine LW.q rfl (Qt.move rfl) ?_
    refine LW.e rfl (Ef.call (Mv.beginP B g m hI (by omega)) Try.func10 rfl rfl rfl ?_)
    rintro _ _ ⟨m1, x, hb1, rfl, rfl⟩
    try simp only [List.cons_append, List.nil_append]
    refine LW.q rfl (Qt.move rfl) ?_
    refine LW.q rfl (Qt.extr rfl rfl) ?_
    refine LW.q rfl (Qt.extr rfl rfl) ?_
    refine LW.q rfl (Qt.assign rfl) ?_
    refine LW.q rfl (Qt.assign rfl) ?_
    refine LW.done ?_
    refine T.seq ?_
    refine T.seq ?_
    refine T.region ?_
    refine LW.q rfl (Qt.move rfl) ?_
    refine LW.q rfl (Qt.move rfl) ?_
    refine LW.q rfl (Qt.len (e := 2) (sz := 1) (by kernel_rfl) rfl) ?_
    refine LW.q rfl (Qt.neq rfl rfl) ?_
    refine LW.done ?_
    first | refine T.condF rfl ?_ | refine T.condPF rfl ((by simp; omega)) ?_ | refine T.condBF rfl ((by simp; omega)) ?_
    refine T.skip ?_
    refine T.seq ?_
    refine T.region ?_
    refine LW.q rfl (Qt.move rfl) ?_
    refine LW.q rfl (Qt.move rfl) ?_
    refine LW.e rfl (Ef.one [_] (e := 2) (sz := 1) (by kernel_rfl) ⟨.int .i64 0, by kernel_rfl, rfl⟩ rfl rfl rfl (by omega) (by omega) ?_)
    intro g43
    refine LW.e rfl (Ef.append Mv.elemZ rfl rfl (SrcOf.blk (by kernel_rfl) rfl (by simp [Value.oneCell'])) (by unfold maxLen; omega) (by omega) ?_)
    rintro p1 c1 hp1
    try simp only [List.cons_append, List.nil_append]
    rw [show S.map kZ ++ [Value.int .i64 m.last] = (S ++ [m.last]).map kZ by simp]
    refine LW.q rfl (Qt.assign rfl) ?_
    refine LW.done ?_
    refine T.region ?_
    refine LW.q rfl (Qt.move rfl) ?_
    refine LW.e rfl (Ef.one [_] (e := 28) (sz := 1) (by kernel_rfl) ⟨.slice none 0 0, by kernel_rfl, rfl⟩ rfl rfl rfl (by omega) (by omega) ?_)
    intro g46
    refine LW.e rfl (Ef.append Mx.elemK rfl rfl (SrcOf.blk (by kernel_rfl) rfl (by simp [Value.oneCell'])) (by unfold maxLen; omega) (by omega) ?_)
    rintro p2 c2 hp2
    try simp only [List.cons_append, List.nil_append]
    rw [show K.map kqV ++ [Value.slice none 0 0] = (K ++ [(⟨none, 0, []⟩ : Kq)]).map kqV by simp]
    refine LW.conv (fun w ho => Own.po_nil (Q := K) ho) ?_
    refine LW.q rfl (Qt.assign rfl) ?_
    refine LW.done ?_
    refine T.region ?_
    refine LW.q rfl (Qt.add rfl rfl (wr64 (by omega) (by omega))) ?_
    refine LW.q rfl (Qt.move rfl) ?_
    refine LW.done ?_
    rw [← hb1.last]
    refine ⟨_, ?_, _, ⟨_, k + 1, m1, S ++ [m1.last], K ++ [(⟨none, 0, []⟩ : Kq)], D, N + o.keys.length, p1, c1, p2, n + 1, c2, pd, nd, cd, m1.last, ⟨by omega, by rw [hb1.last]; exact (hF.begin hb1).mono (Nat.le_add_right _ _) (Nat.le_refl _), by omega, by simp [hnk], hnd, by rw [hb1.last]; exact hl0, rfl⟩, rfl, (updS rfl (updS rfl (updS rfl (updS rfl (updS rfl (updS rfl (updS rfl (updS rfl rfl)))))))), rfl⟩, Sub.any⟩
    first | omega | (simp; omega)
   ·
    refine T.seq ?_
    refine T.region ?_
    refine LW.q rfl (Qt.eql rfl rfl) ?_
    refine LW.q rfl (Qt.assign rfl) ?_
    refine LW.done ?_
    refine T.condP rfl (fun k1 => ?_) (fun k1 => ?_)
    ·
     by_cases hf : findT m.T o.txn = none
     ·
      refine T.seq ?_
      refine T.region ?_
      refine LW.q rfl (Qt.move rfl) ?_
      refine LW.q rfl (Qt.fieldAddr (off := 1) (by kernel_rfl) rfl) ?_
      first | refine LW.q rfl (Qt.load (by kernel_rfl) rfl rfl) ?_ | refine LW.q rfl (Qt.load (by kernel_rfl) rfl (map_at _ _ _ (by omega))) ?_ | refine LW.q rfl (Qt.load (by kernel_rfl) rfl (flat_cell0 _ _ _ (by intros; rfl) _ (by omega) (by rfl))) ?_ | refine LW.q rfl (Qt.load (by kernel_rfl) rfl (flat_cell _ _ _ (by intros; rfl) _ _ (by omega) (by rfl))) ?_ | refine LW.q rfl (Qt.load (by kernel_rfl) rfl (bytes_at _ _ (by omega))) ?_
      refine LW.q rfl (Qt.fieldAddr (off := 2) (by kernel_rfl) rfl) ?_
      first | refine LW.q rfl (Qt.load (by kernel_rfl) rfl rfl) ?_ | refine LW.q rfl (Qt.load (by kernel_rfl) rfl (map_at _ _ _ (by omega))) ?_ | refine LW.q rfl (Qt.load (by kernel_rfl) rfl (flat_cell0 _ _ _ (by intros; rfl) _ (by omega) (by rfl))) ?_ | refine LW.q rfl (Qt.load (by kernel_rfl) rfl (flat_cell _ _ _ (by intros; rfl) _ _ (by omega) (by rfl))) ?_ | refine LW.q rfl (Qt.load (by kernel_rfl) rfl (bytes_at _ _ (by omega))) ?_
      refine LW.e rfl (Ef.call (Mv.writeI B [] g m o.txn da o.keys.length dc o.keys hI (hdv.rd _) rfl (by omega)) Try.func11 rfl rfl rfl ?_)
      rintro _ _ ⟨m1, hm1, hI1, rfl, rfl⟩
      try simp only [List.cons_append, List.nil_append]
      rw [writeM_no hf] at hm1
      obtain rfl : m = m1 := hm1
      rw [writeM_no hf]
      refine LW.q rfl (Qt.eql rfl rfl) ?_
      refine LW.done ?_
      first | refine T.condF rfl ?_ | refine T.condPF rfl (by omega) ?_ | refine T.condBF rfl (by omega) ?_
      refine T.skip ?_
      refine T.region ?_
      refine LW.q rfl (Qt.add rfl rfl (wr64 (by omega) (by omega))) ?_
      refine LW.q rfl (Qt.move rfl) ?_
      refine LW.done ?_
      refine ⟨_, ?_, _, ⟨_, k + 1, m, S, K, D, N + o.keys.length, ps, cs, pk, n, ck, pd, nd, cd, m.last, ⟨by omega, hF.mono (Nat.le_add_right _ _) (Nat.le_succ _), by omega, hnk, hnd, hl0, rfl⟩, rfl, (updS rfl (updS rfl (updS rfl (updS rfl (updS rfl (updS rfl (updS rfl (updS rfl rfl)))))))), rfl⟩, Sub.any⟩
      first | omega | (simp; omega)
     ·
      obtain ⟨⟨i, x⟩, hx⟩ := Option.ne_none_iff_exists'.1 hf
      obtain ⟨t, q, htn, hq, hsn, hxe, hxk, hxl⟩ := hF.ofFind hx
      have htl := (List.getElem?_eq_some_iff.1 hq).1
      have hpq := hF.ptr q (List.mem_of_getElem? hq)
      refine T.seq ?_
      refine T.region ?_
      refine LW.q rfl (Qt.move rfl) ?_
      refine LW.q rfl (Qt.fieldAddr (off := 1) (by kernel_rfl) rfl) ?_
      first | refine LW.q rfl (Qt.load (by kernel_rfl) rfl rfl) ?_ | refine LW.q rfl (Qt.load (by kernel_rfl) rfl (map_at _ _ _ (by omega))) ?_ | refine LW.q rfl (Qt.load (by kernel_rfl) rfl (flat_cell0 _ _ _ (by intros; rfl) _ (by omega) (by rfl))) ?_ | refine LW.q rfl (Qt.load (by kernel_rfl) rfl (flat_cell _ _ _ (by intros; rfl) _ _ (by omega) (by rfl))) ?_ | refine LW.q rfl (Qt.load (by kernel_rfl) rfl (bytes_at _ _ (by omega))) ?_
      refine LW.q rfl (Qt.fieldAddr (off := 2) (by kernel_rfl) rfl) ?_
      first | refine LW.q rfl (Qt.load (by kernel_rfl) rfl rfl) ?_ | refine LW.q rfl (Qt.load (by kernel_rfl) rfl (map_at _ _ _ (by omega))) ?_ | refine LW.q rfl (Qt.load (by kernel_rfl) rfl (flat_cell0 _ _ _ (by intros; rfl) _ (by omega) (by rfl))) ?_ | refine LW.q rfl (Qt.load (by kernel_rfl) rfl (flat_cell _ _ _ (by intros; rfl) _ _ (by omega) (by rfl))) ?_ | refine LW.q rfl (Qt.load (by kernel_rfl) rfl (bytes_at _ _ (by omega))) ?_
      refine LW.e rfl (Ef.call (Mv.writeI B [] g m o.txn da o.keys.length dc o.keys hI (hdv.rd _) rfl (by omega)) Try.func11 rfl rfl rfl ?_)
      rintro _ _ ⟨m1, hm1, hI1, rfl, rfl⟩
      try simp only [List.cons_append, List.nil_append]
      have hcd : (writeM m o.txn o.keys).2 = 0 := by rw [writeM_at hx]
      have hbw := write_begun m o.txn o.keys
      rw [hm1] at hbw
      rw [hcd]
      refine LW.q rfl (Qt.eql rfl rfl) ?_
      refine LW.done ?_
      first | refine T.condT rfl ?_ | refine T.condPT rfl (rfl) ?_ | refine T.condBT rfl (rfl) ?_
      first | refine T.own (fun w ho => ?_) | refine LW.own (fun w ho => ?_)
      obtain ⟨gk, rfl⟩ : ∃ g, pk = some ⟨g, 0, none⟩ := (ho.slice_at (p := pk) (m := n) (c := ck)).2.1 (by omega)
      clear ho
      refine T.conv (fun w ho => Own.po_take (Q := K) hq ho) ?_
      rw [htn]
      refine T.draw 11 ([blk g9 [.int .i64 o.kind, .int .i64 (t : Int), .slice da o.keys.length dc, .int .i64 o.n] 30, fkR (some ⟨gk, 0, none⟩) n ck K]) (by kernel_rfl) (Nat.le_of_ble_eq_true rfl) (by kernel_rfl) ?_
      refine RW.q 0 rfl rfl (by kernel_rfl) Sub.any (Qt.move rfl) ?_
      refine RW.q 1 rfl rfl (by kernel_rfl) Sub.any (Qt.fieldAddr (off := 1) (by kernel_rfl) rfl) ?_
      first | refine RW.q 2 rfl rfl (by kernel_rfl) Sub.any (Qt.load (by kernel_rfl) rfl rfl) ?_ | refine RW.q 2 rfl rfl (by kernel_rfl) Sub.any (Qt.load (by kernel_rfl) rfl (map_at _ _ _ (by omega))) ?_ | refine RW.q 2 rfl rfl (by kernel_rfl) Sub.any (Qt.load (by kernel_rfl) rfl (flat_cell0 _ _ _ (by intros; rfl) _ (by omega) (by rfl))) ?_ | refine RW.q 2 rfl rfl (by kernel_rfl) Sub.any (Qt.load (by kernel_rfl) rfl (flat_cell _ _ _ (by intros; rfl) _ _ (by omega) (by rfl))) ?_ | refine RW.q 2 rfl rfl (by kernel_rfl) Sub.any (Qt.load (by kernel_rfl) rfl (bytes_at _ _ (by omega))) ?_
      refine RW.q 3 rfl rfl (by kernel_rfl) Sub.any (Qt.move rfl) ?_
      refine RW.q 4 rfl rfl (by kernel_rfl) Sub.any (Qt.fieldAddr (off := 1) (by kernel_rfl) rfl) ?_
      first | refine RW.q 5 rfl rfl (by kernel_rfl) Sub.any (Qt.load (by kernel_rfl) rfl rfl) ?_ | refine RW.q 5 rfl rfl (by kernel_rfl) Sub.any (Qt.load (by kernel_rfl) rfl (map_at _ _ _ (by omega))) ?_ | refine RW.q 5 rfl rfl (by kernel_rfl) Sub.any (Qt.load (by kernel_rfl) rfl (flat_cell0 _ _ _ (by intros; rfl) _ (by omega) (by rfl))) ?_ | refine RW.q 5 rfl rfl (by kernel_rfl) Sub.any (Qt.load (by kernel_rfl) rfl (flat_cell _ _ _ (by intros; rfl) _ _ (by omega) (by rfl))) ?_ | refine RW.q 5 rfl rfl (by kernel_rfl) Sub.any (Qt.load (by kernel_rfl) rfl (bytes_at _ _ (by omega))) ?_
      refine RW.q 6 rfl rfl (by kernel_rfl) Sub.any (Qt.index t (e := 28) (sz := 1) (by kernel_rfl) rfl rfl rfl (by omega)) ?_
      refine RW.q 7 rfl rfl (by kernel_rfl) Sub.any (Qt.load (v := kqV q) (by kernel_rfl) rfl (by rw [Nat.zero_add, Nat.mul_one, List.getElem?_map, hq]; rfl)) ?_
      refine RW.q 8 rfl rfl (by kernel_rfl) Sub.any (Qt.fieldAddr (off := 2) (by kernel_rfl) rfl) ?_
      first | refine RW.q 9 rfl rfl (by kernel_rfl) Sub.any (Qt.load (by kernel_rfl) rfl rfl) ?_ | refine RW.q 9 rfl rfl (by kernel_rfl) Sub.any (Qt.load (by kernel_rfl) rfl (map_at _ _ _ (by omega))) ?_ | refine RW.q 9 rfl rfl (by kernel_rfl) Sub.any (Qt.load (by kernel_rfl) rfl (flat_cell0 _ _ _ (by intros; rfl) _ (by omega) (by rfl))) ?_ | refine RW.q 9 rfl rfl (by kernel_rfl) Sub.any (Qt.load (by kernel_rfl) rfl (flat_cell _ _ _ (by intros; rfl) _ _ (by omega) (by rfl))) ?_ | refine RW.q 9 rfl rfl (by kernel_rfl) Sub.any (Qt.load (by kernel_rfl) rfl (bytes_at _ _ (by omega))) ?_
      refine RW.one 10 (by kernel_rfl) ?_
      refine RO.eS rfl rfl (Ef.append Mw.elemS rfl rfl (SrcOf.rd (m := o.keys.length) (hdv.rd _) (by kernel_rfl) (by simp) one_kT) (by unfold maxLen; omega) (by omega) ?_)
      rintro p1 c1 hp1
      try simp only [List.cons_append, List.nil_append]
      refine ⟨Sub.any, ?_⟩
      refine RW.done (by rfl) ?_
      simp only [List.drop_succ_cons, List.drop_zero, List.drop_nil]
      refine LW.q rfl (Qt.index t (e := 28) (sz := 1) (by kernel_rfl) rfl rfl rfl (by omega)) ?_
      refine LW.e0 rfl (Ef.store1 (by kernel_rfl) rfl rfl rfl (by simp; omega) ?_)
      rw [← List.map_append, show q.ks.length + o.keys.length = (q.ks ++ o.keys).length by simp]
      rw [show q.ks.length + o.keys.length = (q.ks ++ o.keys).length by simp] at hp1
      refine LW.conv (fun w ho => Own.po_put (Q := K) ⟨p1, c1, q.ks ++ o.keys⟩ htl ho) ?_
      rw [show (K.map kqV).set (0 + t * 1) (Value.slice p1 (q.ks ++ o.keys).length c1) = (K.set t ⟨p1, c1, q.ks ++ o.keys⟩).map kqV by rw [Nat.zero_add, Nat.mul_one, List.map_set]]
      refine LW.done ?_
      refine T.region ?_
      refine LW.q rfl (Qt.add rfl rfl (wr64 (by omega) (by omega))) ?_
      refine LW.q rfl (Qt.move rfl) ?_
      refine LW.done ?_
      rw [htn] at hm1 hx
      rw [← show m1.last = m.last by omega]
      refine ⟨_, ?_, _, ⟨_, k + 1, m1, S, K.set t ⟨p1, c1, q.ks ++ o.keys⟩, D, N + o.keys.length, ps, cs, some ⟨gk, 0, none⟩, n, ck, pd, nd, cd, m1.last, ⟨by omega, by rw [← hm1]; exact hF.write (by rw [hm1]; exact hI1) hx hq hp1, by omega, by simp [hnk], hnd, by omega, rfl⟩, rfl, (updS rfl (updS rfl (updS rfl (updS rfl (updS rfl (updS rfl (updS rfl (updS rfl rfl)))))))), rfl⟩, Sub.any⟩
      first | omega | (simp; omega)
    ·
     refine T.seq ?_
     refine T.region ?_
     refine LW.q rfl (Qt.eql rfl rfl) ?_
     refine LW.q rfl (Qt.assign rfl) ?_
     refine LW.done ?_
     refine T.condP rfl (fun k2 => ?_) (fun k2 => ?_)
     ·
      refine T.seq ?_
      refine T.region ?_
      refine LW.q rfl (Qt.move rfl) ?_
      refine LW.e rfl (Ef.call (Mv.activeI B g m m.T.length hI rfl (by omega)) Try.func12 rfl rfl rfl ?_)
      rintro _ _ ⟨p3, c3, rfl, hp3, rfl⟩
      try simp only [List.cons_append, List.nil_append]
      refine LW.q rfl (Qt.len (e := 2) (sz := 1) (by kernel_rfl) rfl) ?_
      refine LW.q rfl (Qt.eql rfl rfl) ?_
      refine LW.q rfl (Qt.assign rfl) ?_
      refine LW.done ?_
      refine T.seq ?_
      refine T.region ?_
      refine LW.q rfl (Qt.move rfl) ?_
      refine LW.q rfl (Qt.fieldAddr (off := 1) (by kernel_rfl) rfl) ?_
      first | refine LW.q rfl (Qt.load (by kernel_rfl) rfl rfl) ?_ | refine LW.q rfl (Qt.load (by kernel_rfl) rfl (map_at _ _ _ (by omega))) ?_ | refine LW.q rfl (Qt.load (by kernel_rfl) rfl (flat_cell0 _ _ _ (by intros; rfl) _ (by omega) (by rfl))) ?_ | refine LW.q rfl (Qt.load (by kernel_rfl) rfl (flat_cell _ _ _ (by intros; rfl) _ _ (by omega) (by rfl))) ?_ | refine LW.q rfl (Qt.load (by kernel_rfl) rfl (bytes_at _ _ (by omega))) ?_
      obtain ⟨⟨st, cd0⟩, hst⟩ : ∃ q, checkM m o.txn = q := ⟨_, rfl⟩
      refine LW.e rfl (Ef.call (Mv.commitI B g m o.txn hI) Try.func13 rfl rfl rfl ?_)
      rintro _ _ ⟨m1, hm1, hI1, rfl, rfl⟩
      try simp only [List.cons_append, List.nil_append]
      rw [show (checkM m o.txn).1 = st by rw [hst], show (checkM m o.txn).2 = cd0 by rw [hst]]
      refine LW.q rfl (Qt.move rfl) ?_
      refine LW.q rfl (Qt.extr rfl rfl) ?_
      refine LW.q rfl (Qt.extr rfl rfl) ?_
      refine LW.q rfl (Qt.assign rfl) ?_
      refine LW.q rfl (Qt.assign rfl) ?_
      refine LW.done ?_
      refine T.seq ?_
      refine T.seq ?_
      refine T.region ?_
      refine LW.q rfl (Qt.move rfl) ?_
      refine LW.q rfl (Qt.eql rfl rfl) ?_
      refine LW.q rfl (Qt.move rfl) ?_
      by_cases hcd : cd0 = 0
      ·
       subst hcd
       obtain ⟨i, x, hx, c⟩ := hm1.2.1 (by rw [hst])
       rw [hst] at c
       obtain ⟨i', x', hx', hs⟩ := check_stamp hI (t := o.txn) (by rw [hst])
       obtain ⟨t, q, htn, hq, hsn, hxe, hxk, hxl⟩ := hF.ofFind hx
       have htl := (List.getElem?_eq_some_iff.1 hq).1
       have hpq := hF.ptr q (List.mem_of_getElem? hq)
       first | refine T.own (fun w ho => ?_) | refine LW.own (fun w ho => ?_)
       obtain ⟨gk, rfl⟩ : ∃ g, pk = some ⟨g, 0, none⟩ := (ho.slice_at (p := pk) (m := n) (c := ck)).2.1 (by omega)
       obtain ⟨gs, rfl⟩ : ∃ g, ps = some ⟨g, 0, none⟩ := (ho.slice_at (p := ps) (m := n) (c := cs)).2.1 (by omega)
       clear ho
       first | refine LW.gF (t := 84) rfl rfl ?_ | refine LW.gF (t := 84) rfl (decide_eq_false ((by simp))) ?_ | refine LW.gF (t := 84) rfl ((by simp)) ?_
       refine LW.s rfl ?_
       refine LW.q rfl (Qt.pick rfl rfl) ?_
       refine LW.q rfl (Qt.move rfl) ?_
       first | refine LW.gF (t := 87) rfl rfl ?_ | refine LW.gF (t := 87) rfl (decide_eq_false (rfl)) ?_ | refine LW.gF (t := 87) rfl (rfl) ?_
       refine LW.s rfl ?_
       refine LW.s rfl ?_
       refine LW.s rfl ?_
       refine LW.s rfl ?_
       refine LW.s rfl ?_
       refine LW.s rfl ?_
       refine LW.s rfl ?_
       refine LW.q rfl (Qt.pick rfl rfl) ?_
       refine LW.done ?_
       first | refine T.condF rfl ?_ | refine T.condPF rfl (rfl) ?_ | refine T.condBF rfl (rfl) ?_
       refine T.skip ?_
       refine T.seq ?_
       refine T.seq ?_
       refine T.region ?_
       refine LW.q rfl (Qt.move rfl) ?_
       refine LW.q rfl (Qt.neq rfl rfl) ?_
       refine LW.q rfl (Qt.move rfl) ?_
       first | refine LW.gF (t := 98) rfl rfl ?_ | refine LW.gF (t := 98) rfl (decide_eq_false ((by simp))) ?_ | refine LW.gF (t := 98) rfl ((by simp)) ?_
       refine LW.q rfl (Qt.move rfl) ?_
       refine LW.q rfl (Qt.fieldAddr (off := 1) (by kernel_rfl) rfl) ?_
       first | refine LW.q rfl (Qt.load (by kernel_rfl) rfl rfl) ?_ | refine LW.q rfl (Qt.load (by kernel_rfl) rfl (map_at _ _ _ (by omega))) ?_ | refine LW.q rfl (Qt.load (by kernel_rfl) rfl (flat_cell0 _ _ _ (by intros; rfl) _ (by omega) (by rfl))) ?_ | refine LW.q rfl (Qt.load (by kernel_rfl) rfl (flat_cell _ _ _ (by intros; rfl) _ _ (by omega) (by rfl))) ?_ | refine LW.q rfl (Qt.load (by kernel_rfl) rfl (bytes_at _ _ (by omega))) ?_
       refine LW.q rfl (Qt.index t (e := 28) (sz := 1) (by kernel_rfl) rfl rfl htn (by omega)) ?_
       refine LW.q rfl (Qt.load (v := kqV q) (by kernel_rfl) rfl (by rw [Nat.zero_add, Nat.mul_one, List.getElem?_map, hq]; rfl)) ?_
       refine LW.q rfl (Qt.len (e := 9) (sz := 1) (by kernel_rfl) rfl) ?_
       refine LW.q rfl (Qt.eql rfl rfl) ?_
       refine LW.q rfl (Qt.pick rfl rfl) ?_
       refine LW.done ?_
       refine T.condP rfl (fun hz => ?_) (fun hz => ?_)
       ·
        have hq0 : x.ks = [] := hxe.2 (List.eq_nil_of_length_eq_zero (by omega))
        have hl1 : m1.last = m.last := by rw [c.last, if_pos hq0]
        rw [← hl1]
        refine T.exit ?_
        refine T.region ?_
        refine LW.q rfl (Qt.add rfl rfl (wr64 (by omega) (by omega))) ?_
        refine LW.q rfl (Qt.move rfl) ?_
        refine LW.done ?_
        refine ⟨_, ?_, _, ⟨_, k + 1, m1, S, K, D, N + o.keys.length, some ⟨gs, 0, none⟩, cs, some ⟨gk, 0, none⟩, n, ck, pd, nd, cd, m1.last, ⟨by omega, (hF.drop hI1 c.T c.begun fun s => by rw [c.W, hq0]; rfl).mono (Nat.le_add_right _ _) (Nat.le_refl _), by omega, hnk, hnd, by omega, rfl⟩, rfl, (updS rfl (updS rfl (updS rfl (updS rfl (updS rfl (updS rfl (updS rfl (updS rfl rfl)))))))), rfl⟩, Sub.any⟩
        first | omega | (simp; omega)
       ·
        have hq0 : x.ks ≠ [] := fun e => hz (by rw [hxe.1 e]; rfl)
        obtain ⟨rfl, rfl⟩ : i = i' ∧ x = x' := by rw [hx] at hx'; cases hx'; exact ⟨rfl, rfl⟩
        obtain ⟨_, hs1, hcl, hmx⟩ := hs.resolve_left (fun e => hq0 e.1)
        rw [hst] at hs1
        dsimp only at hs1
        refine T.skip ?_
        refine T.seq ?_
        refine T.seq ?_
        refine T.region ?_
        refine LW.q rfl (Qt.move rfl) ?_
        refine LW.q rfl (Qt.move rfl) ?_
        refine LW.q rfl (Qt.leq rfl rfl) ?_
        refine LW.q rfl (Qt.move rfl) ?_
        first | refine LW.gF (t := 110) rfl rfl ?_ | refine LW.gF (t := 110) rfl (decide_eq_false ((by omega))) ?_ | refine LW.gF (t := 110) rfl ((by omega)) ?_
        refine LW.q rfl (Qt.move rfl) ?_
        refine LW.q rfl (Qt.move rfl) ?_
        refine LW.q rfl (Qt.fieldAddr (off := 1) (by kernel_rfl) rfl) ?_
        first | refine LW.q rfl (Qt.load (by kernel_rfl) rfl rfl) ?_ | refine LW.q rfl (Qt.load (by kernel_rfl) rfl (map_at _ _ _ (by omega))) ?_ | refine LW.q rfl (Qt.load (by kernel_rfl) rfl (flat_cell0 _ _ _ (by intros; rfl) _ (by omega) (by rfl))) ?_ | refine LW.q rfl (Qt.load (by kernel_rfl) rfl (flat_cell _ _ _ (by intros; rfl) _ _ (by omega) (by rfl))) ?_ | refine LW.q rfl (Qt.load (by kernel_rfl) rfl (bytes_at _ _ (by omega))) ?_
        refine LW.q rfl (Qt.index t (e := 2) (sz := 1) (by kernel_rfl) rfl rfl htn (by omega)) ?_
        refine LW.q rfl (Qt.load (v := kZ x.snap) (by kernel_rfl) rfl (by rw [Nat.zero_add, Nat.mul_one, List.getElem?_map, hsn]; rfl)) ?_
        refine LW.q rfl (Qt.leq rfl rfl) ?_
        refine LW.q rfl (Qt.pick rfl rfl) ?_
        refine LW.done ?_
        first | refine T.condF rfl ?_ | refine T.condPF rfl ((by omega)) ?_ | refine T.condBF rfl ((by omega)) ?_
        refine T.skip ?_
        refine T.seq ?_
        refine T.seq ?_
        refine T.region ?_
        refine LW.q rfl (Qt.move rfl) ?_
        refine LW.q rfl (Qt.len (e := 30) (sz := 4) (by kernel_rfl) rfl) ?_
        refine LW.q rfl (Qt.move rfl) ?_
        refine LW.done ?_
        refine T.block ?_
        refine T.loop (fun mz fz lz => ∃ (f0 : Fr) (j : Nat), (j ≤ nd) ∧ mz = nd - j ∧ fz = (upd (upd (upd (upd (upd (upd (upd (upd (upd (upd (upd (upd (upd f0 3 (.pointer (some ⟨g, 0, none⟩))) 4 (.slice (some ⟨gs, 0, none⟩) n cs)) 5 (.slice (some ⟨gk, 0, none⟩) n ck)) 6 (.slice pd nd cd)) 7 (.int .i64 m.last)) 9 (.pointer (some ⟨g9, 0, none⟩))) 13 (.int .i64 st)) 22 (.slice (some ⟨kb, ko, none⟩) sc.length scap)) 23 (.int .i64 sc.length)) 24 (.int .i64 k)) 119 (.slice pd nd cd)) 120 (.int .i64 nd)) 121 (.int .i64 j)) ∧ lz = blk g9 [.int .i64 o.kind, .int .i64 o.txn, .slice da o.keys.length dc, .int .i64 o.n] 30 :: fsR (some ⟨gs, 0, none⟩) n cs S :: fkR (some ⟨gk, 0, none⟩) n ck K :: fdR pd nd cd D :: poS K :: mgB g m1 :: actA m1 :: wrA m1 :: ksA m1.T :: F) ?_ ?_
        · refine ⟨_, _, ⟨_, 0, Nat.zero_le _, rfl, (updS rfl (updS rfl (updS rfl (updS rfl (updS rfl (updS rfl (updS rfl (updS rfl (updS rfl (updS rfl (updS rfl (updS rfl (updS rfl rfl))))))))))))), rfl⟩, Sub.any⟩
        ·
         rintro mz fz lz ⟨f0, j, hj, hmz, rfl, rfl⟩
         subst mz
         try simp only [List.cons_append, List.nil_append]
         refine T.seq ?_
         refine T.region ?_
         refine LW.q rfl (Qt.lss rfl rfl) ?_
         refine LW.done ?_
         refine T.seq ?_
         refine T.condP rfl (fun hlt2 => ?_) (fun hlt2 => ?_)
         ·
          first | refine T.own (fun w ho => ?_) | refine LW.own (fun w ho => ?_)
          obtain ⟨gd, rfl⟩ : ∃ g, pd = some ⟨g, 0, none⟩ := (ho.slice_at (p := pd) (m := nd) (c := cd)).2.1 (by omega)
          clear ho
          obtain ⟨d, hd⟩ : ∃ d, D[j]? = some d := ⟨_, List.getElem?_eq_getElem (by omega)⟩
          have hdm := List.mem_of_getElem? hd
          have hdq := (hF.dn d hdm).1
          have hpd := hF.ptr d.q (List.mem_of_getElem? hdq)
          refine T.skip ?_
          refine T.seq ?_
          refine T.block ?_
          refine T.seq ?_
          refine T.region ?_
          refine LW.q rfl (Qt.index _ (e := 30) (sz := 4) (by kernel_rfl) rfl rfl rfl (by omega)) ?_
          refine LW.q rfl (Qt.loadAgg [_, _, _, _] (by kernel_rfl) rfl ⟨flat4 hd 0 (by omega), flat4 hd 1 (by omega), flat4 hd 2 (by omega), flat4 hd 3 (by omega), trivial⟩) ?_
          refine LW.e rfl (Ef.alloc [.int .i64 0, .int .i64 0, .slice none 0 0, .int .i64 0] (by unfold zeroB; kernel_rfl) ?_)
          intro g16
          refine LW.e0 rfl (Ef.store [_, _, _, _] (by kernel_rfl) rfl rfl rfl rfl (by simp) ?_)
          try simp only [splice, List.length_cons, List.length_nil, List.drop_succ_cons, List.cons_append, List.take_succ_cons, List.take_zero, List.drop_zero, List.nil_append, List.append_nil]
          refine LW.done ?_
          refine T.seq ?_
          refine T.drawAll 18 (by kernel_rfl) (Nat.le_of_ble_eq_true rfl) (by kernel_rfl) ?_
          refine RW.q 0 rfl rfl (by kernel_rfl) (Sub.refl _) (Qt.fieldAddr (off := 3) (by kernel_rfl) rfl) ?_
          first | refine RW.q 1 rfl rfl (by kernel_rfl) (Sub.refl _) (Qt.load (by kernel_rfl) rfl rfl) ?_ | refine RW.q 1 rfl rfl (by kernel_rfl) (Sub.refl _) (Qt.load (by kernel_rfl) rfl (map_at _ _ _ (by omega))) ?_ | refine RW.q 1 rfl rfl (by kernel_rfl) (Sub.refl _) (Qt.load (by kernel_rfl) rfl (flat_cell0 _ _ _ (by intros; rfl) _ (by omega) (by rfl))) ?_ | refine RW.q 1 rfl rfl (by kernel_rfl) (Sub.refl _) (Qt.load (by kernel_rfl) rfl (flat_cell _ _ _ (by intros; rfl) _ _ (by omega) (by rfl))) ?_ | refine RW.q 1 rfl rfl (by kernel_rfl) (Sub.refl _) (Qt.load (by kernel_rfl) rfl (bytes_at _ _ (by omega))) ?_
          refine RW.q 2 rfl rfl (by kernel_rfl) (Sub.refl _) (Qt.move rfl) ?_
          refine RW.q 3 rfl rfl (by kernel_rfl) (Sub.refl _) (Qt.fieldAddr (off := 1) (by kernel_rfl) rfl) ?_
          first | refine RW.q 4 rfl rfl (by kernel_rfl) (Sub.refl _) (Qt.load (by kernel_rfl) rfl rfl) ?_ | refine RW.q 4 rfl rfl (by kernel_rfl) (Sub.refl _) (Qt.load (by kernel_rfl) rfl (map_at _ _ _ (by omega))) ?_ | refine RW.q 4 rfl rfl (by kernel_rfl) (Sub.refl _) (Qt.load (by kernel_rfl) rfl (flat_cell0 _ _ _ (by intros; rfl) _ (by omega) (by rfl))) ?_ | refine RW.q 4 rfl rfl (by kernel_rfl) (Sub.refl _) (Qt.load (by kernel_rfl) rfl (flat_cell _ _ _ (by intros; rfl) _ _ (by omega) (by rfl))) ?_ | refine RW.q 4 rfl rfl (by kernel_rfl) (Sub.refl _) (Qt.load (by kernel_rfl) rfl (bytes_at _ _ (by omega))) ?_
          refine RW.q 5 rfl rfl (by kernel_rfl) (Sub.refl _) (Qt.index t (e := 2) (sz := 1) (by kernel_rfl) rfl rfl htn (by omega)) ?_
          refine RW.q 6 rfl rfl (by kernel_rfl) (Sub.refl _) (Qt.load (v := kZ x.snap) (by kernel_rfl) rfl (by rw [Nat.zero_add, Nat.mul_one, List.getElem?_map, hsn]; rfl)) ?_
          refine RW.q 7 rfl rfl (by kernel_rfl) (Sub.refl _) (Qt.gtr rfl rfl) ?_
          refine RW.q 8 rfl rfl (by kernel_rfl) (Sub.refl _) (Qt.move rfl) ?_
          refine RW.split (t := 133) rfl (fun hdn => ?_) (fun hdn => ?_)
          ·
           try replace hdn := of_decide_eq_true hdn
           refine RW.q 9 rfl rfl (by kernel_rfl) (Sub.refl _) (Qt.fieldAddr (off := 2) (by kernel_rfl) rfl) ?_
           first | refine RW.q 10 rfl rfl (by kernel_rfl) (Sub.refl _) (Qt.load (by kernel_rfl) rfl rfl) ?_ | refine RW.q 10 rfl rfl (by kernel_rfl) (Sub.refl _) (Qt.load (by kernel_rfl) rfl (map_at _ _ _ (by omega))) ?_ | refine RW.q 10 rfl rfl (by kernel_rfl) (Sub.refl _) (Qt.load (by kernel_rfl) rfl (flat_cell0 _ _ _ (by intros; rfl) _ (by omega) (by rfl))) ?_ | refine RW.q 10 rfl rfl (by kernel_rfl) (Sub.refl _) (Qt.load (by kernel_rfl) rfl (flat_cell _ _ _ (by intros; rfl) _ _ (by omega) (by rfl))) ?_ | refine RW.q 10 rfl rfl (by kernel_rfl) (Sub.refl _) (Qt.load (by kernel_rfl) rfl (bytes_at _ _ (by omega))) ?_
           refine RW.q 11 rfl rfl (by kernel_rfl) (Sub.refl _) (Qt.move rfl) ?_
           refine RW.q 12 rfl rfl (by kernel_rfl) (Sub.refl _) (Qt.fieldAddr (off := 1) (by kernel_rfl) rfl) ?_
           first | refine RW.q 13 rfl rfl (by kernel_rfl) (Sub.refl _) (Qt.load (by kernel_rfl) rfl rfl) ?_ | refine RW.q 13 rfl rfl (by kernel_rfl) (Sub.refl _) (Qt.load (by kernel_rfl) rfl (map_at _ _ _ (by omega))) ?_ | refine RW.q 13 rfl rfl (by kernel_rfl) (Sub.refl _) (Qt.load (by kernel_rfl) rfl (flat_cell0 _ _ _ (by intros; rfl) _ (by omega) (by rfl))) ?_ | refine RW.q 13 rfl rfl (by kernel_rfl) (Sub.refl _) (Qt.load (by kernel_rfl) rfl (flat_cell _ _ _ (by intros; rfl) _ _ (by omega) (by rfl))) ?_ | refine RW.q 13 rfl rfl (by kernel_rfl) (Sub.refl _) (Qt.load (by kernel_rfl) rfl (bytes_at _ _ (by omega))) ?_
           refine RW.q 14 rfl rfl (by kernel_rfl) (Sub.refl _) (Qt.index t (e := 28) (sz := 1) (by kernel_rfl) rfl rfl htn (by omega)) ?_
           refine RW.q 15 rfl rfl (by kernel_rfl) (Sub.refl _) (Qt.load (v := kqV q) (by kernel_rfl) rfl (by rw [Nat.zero_add, Nat.mul_one, List.getElem?_map, hq]; rfl)) ?_
           refine RW.one 16 (by kernel_rfl) ?_
           refine RO.e rfl rfl (Ef.call (Mx.shares B [poS K] d.q.p d.q.ks.length d.q.c d.q.ks q.p q.ks.length q.c q.ks (RdV.pool (InQ.ofK hF hdq)) (RdV.pool (InQ.ofK hF hq)) rfl rfl (by omega) (by omega)) Try.func14 rfl rfl rfl ?_)
           rintro _ _ ⟨rfl, rfl⟩
           try simp only [List.cons_append, List.nil_append]
           rw [hF.apart hxk hcl hdm (by omega)]
           refine ⟨Sub.any, ?_⟩
           refine RW.q 17 rfl rfl (by kernel_rfl) (Sub.refl _) (Qt.pick rfl rfl) ?_
           refine RW.done (by rfl) ?_
           simp only [List.drop_succ_cons, List.drop_zero, List.drop_nil]
           refine LW.done ?_
           first | refine T.condF rfl ?_ | refine T.condPF rfl (rfl) ?_ | refine T.condBF rfl (rfl) ?_
           refine T.skip ?_
           refine T.region ?_
           refine LW.q rfl (Qt.add rfl rfl (wr64 (by omega) (by omega))) ?_
           refine LW.q rfl (Qt.move rfl) ?_
           refine LW.done ?_
           refine ⟨_, ?_, _, ⟨_, j + 1, by omega, rfl, (updS rfl (updS rfl (updS rfl (updS rfl (updS rfl (updS rfl (updS rfl (updS rfl (updS rfl (updS rfl (updS rfl (updS rfl (updS rfl rfl))))))))))))), rfl⟩, Sub.any⟩
           first | omega | (simp; omega)
          ·
           try replace hdn := of_decide_eq_false hdn
           refine RW.s 9 rfl rfl (by kernel_rfl) (Sub.refl _) ?_
           refine RW.s 10 rfl rfl (by kernel_rfl) (Sub.refl _) ?_
           refine RW.s 11 rfl rfl (by kernel_rfl) (Sub.refl _) ?_
           refine RW.s 12 rfl rfl (by kernel_rfl) (Sub.refl _) ?_
           refine RW.s 13 rfl rfl (by kernel_rfl) (Sub.refl _) ?_
           refine RW.s 14 rfl rfl (by kernel_rfl) (Sub.refl _) ?_
           refine RW.s 15 rfl rfl (by kernel_rfl) (Sub.refl _) ?_
           refine RW.s 16 rfl rfl (by kernel_rfl) (Sub.refl _) ?_
           refine RW.q 17 rfl rfl (by kernel_rfl) (Sub.refl _) (Qt.pick rfl rfl) ?_
           refine RW.done (by rfl) ?_
           simp only [List.drop_succ_cons, List.drop_zero, List.drop_nil]
           refine LW.done ?_
           first | refine T.condF rfl ?_ | refine T.condPF rfl (rfl) ?_ | refine T.condBF rfl (rfl) ?_
           refine T.skip ?_
           refine T.region ?_
           refine LW.q rfl (Qt.add rfl rfl (wr64 (by omega) (by omega))) ?_
           refine LW.q rfl (Qt.move rfl) ?_
           refine LW.done ?_
           refine ⟨_, ?_, _, ⟨_, j + 1, by omega, rfl, (updS rfl (updS rfl (updS rfl (updS rfl (updS rfl (updS rfl (updS rfl (updS rfl (updS rfl (updS rfl (updS rfl (updS rfl (updS rfl rfl))))))))))))), rfl⟩, Sub.any⟩
           first | omega | (simp; omega)
         ·
          refine T.exit ?_
          refine T.seq ?_
          refine T.draw 12 ([blk g9 [.int .i64 o.kind, .int .i64 o.txn, .slice da o.keys.length dc, .int .i64 o.n] 30, fkR (some ⟨gk, 0, none⟩) n ck K]) (by kernel_rfl) (Nat.le_of_ble_eq_true rfl) (by kernel_rfl) ?_
          refine RW.q 0 rfl rfl (by kernel_rfl) Sub.any (Qt.move rfl) ?_
          refine RW.q 1 rfl rfl (by kernel_rfl) Sub.any (Qt.fieldAddr (off := 1) (by kernel_rfl) rfl) ?_
          first | refine RW.q 2 rfl rfl (by kernel_rfl) Sub.any (Qt.load (by kernel_rfl) rfl rfl) ?_ | refine RW.q 2 rfl rfl (by kernel_rfl) Sub.any (Qt.load (by kernel_rfl) rfl (map_at _ _ _ (by omega))) ?_ | refine RW.q 2 rfl rfl (by kernel_rfl) Sub.any (Qt.load (by kernel_rfl) rfl (flat_cell0 _ _ _ (by intros; rfl) _ (by omega) (by rfl))) ?_ | refine RW.q 2 rfl rfl (by kernel_rfl) Sub.any (Qt.load (by kernel_rfl) rfl (flat_cell _ _ _ (by intros; rfl) _ _ (by omega) (by rfl))) ?_ | refine RW.q 2 rfl rfl (by kernel_rfl) Sub.any (Qt.load (by kernel_rfl) rfl (bytes_at _ _ (by omega))) ?_
          refine RW.q 3 rfl rfl (by kernel_rfl) Sub.any (Qt.move rfl) ?_
          refine RW.q 4 rfl rfl (by kernel_rfl) Sub.any (Qt.fieldAddr (off := 1) (by kernel_rfl) rfl) ?_
          first | refine RW.q 5 rfl rfl (by kernel_rfl) Sub.any (Qt.load (by kernel_rfl) rfl rfl) ?_ | refine RW.q 5 rfl rfl (by kernel_rfl) Sub.any (Qt.load (by kernel_rfl) rfl (map_at _ _ _ (by omega))) ?_ | refine RW.q 5 rfl rfl (by kernel_rfl) Sub.any (Qt.load (by kernel_rfl) rfl (flat_cell0 _ _ _ (by intros; rfl) _ (by omega) (by rfl))) ?_ | refine RW.q 5 rfl rfl (by kernel_rfl) Sub.any (Qt.load (by kernel_rfl) rfl (flat_cell _ _ _ (by intros; rfl) _ _ (by omega) (by rfl))) ?_ | refine RW.q 5 rfl rfl (by kernel_rfl) Sub.any (Qt.load (by kernel_rfl) rfl (bytes_at _ _ (by omega))) ?_
          refine RW.q 6 rfl rfl (by kernel_rfl) Sub.any (Qt.index t (e := 28) (sz := 1) (by kernel_rfl) rfl rfl htn (by omega)) ?_
          refine RW.q 7 rfl rfl (by kernel_rfl) Sub.any (Qt.load (v := kqV q) (by kernel_rfl) rfl (by rw [Nat.zero_add, Nat.mul_one, List.getElem?_map, hq]; rfl)) ?_
          refine RW.q 8 rfl rfl (by kernel_rfl) Sub.any (Qt.move rfl) ?_
          refine RW.q 9 rfl rfl (by kernel_rfl) Sub.any (Qt.build [(0, 1), (1, 1), (2, 1), (3, 1)] [.int .i64 0, .int .i64 0, .slice none 0 0, .int .i64 0] [_, _, _, _] [(1, _), (2, _), (3, _)] (by kernel_rfl) (by unfold zeroB; kernel_rfl) rfl rfl) ?_
          refine RW.one 10 (by kernel_rfl) ?_
          refine RO.eS rfl rfl (Ef.one [_, _, _, _] (e := 30) (sz := 4) (by kernel_rfl) ⟨.agg #[.int .i64 0, .int .i64 0, .slice none 0 0, .int .i64 0], by kernel_rfl, rfl⟩ rfl rfl rfl (by omega) (by omega) ?_)
          intro g154
          refine ⟨Sub.any, ?_⟩
          refine RW.one 11 (by kernel_rfl) ?_
          refine RO.eS rfl rfl (Ef.append Mx.elemO rfl rfl (SrcOf.blk (by kernel_rfl) rfl (by simp [Value.oneCell'])) (by unfold maxLen; omega) (by omega) ?_)
          rintro p5 c5 hp5
          try simp only [List.cons_append, List.nil_append]
          rw [show D.flatMap fdC ++ [Value.int .i64 0, Value.int .i64 o.txn, kqV q, Value.int .i64 st] = (D ++ [(⟨t, q, st⟩ : Fd)]).flatMap fdC by simp [htn]]
          refine ⟨Sub.any, ?_⟩
          refine RW.done (by rfl) ?_
          simp only [List.drop_succ_cons, List.drop_zero, List.drop_nil]
          refine LW.q rfl (Qt.assign rfl) ?_
          refine LW.done ?_
          refine T.region ?_
          refine LW.q rfl (Qt.move rfl) ?_
          refine LW.q rfl (Qt.assign rfl) ?_
          refine LW.done ?_
          refine T.region ?_
          refine LW.q rfl (Qt.add rfl rfl (wr64 (by omega) (by omega))) ?_
          refine LW.q rfl (Qt.move rfl) ?_
          refine LW.done ?_
          have hl1 : m1.last = st := by rw [c.last, if_neg hq0]
          rw [← hl1]
          refine ⟨_, ?_, _, ⟨_, k + 1, m1, S, K, D ++ [⟨t, q, m1.last⟩], N + o.keys.length, some ⟨gs, 0, none⟩, cs, some ⟨gk, 0, none⟩, n, ck, p5, nd + 1, c5, m1.last, ⟨by omega, by rw [hl1]; exact (hF.done hI1 (by rw [← htn]; exact hx) hq (by rw [← htn]; exact c) (by omega)).mono (Nat.le_add_right _ _) (Nat.le_refl _), by omega, hnk, by simp [hnd], by omega, rfl⟩, rfl, (updS rfl (updS rfl (updS rfl (updS rfl (updS rfl (updS rfl (updS rfl (updS rfl rfl)))))))), rfl⟩, Sub.any⟩
          first | omega | (simp; omega)
      ·
       obtain ⟨hF1, hl1⟩ := hF.bad hI1 hm1 (by rw [hst]; exact hcd)
       refine LW.split (t := 84) rfl (fun h120 => ?_) (fun h120 => ?_)
       ·
        try replace h120 := of_decide_eq_true h120
        obtain ⟨i, x, hx⟩ : ∃ i x, findT m.T o.txn = some (i, x) := by
         cases hf : findT m.T o.txn with
         | none => unfold checkM at hst; rw [hf] at hst; simp at hst; omega
         | some r => exact ⟨r.1, r.2, rfl⟩
        obtain ⟨t, q, htn, hq, hsn, hxe, hxk, hxl⟩ := hF.ofFind hx
        have htl := (List.getElem?_eq_some_iff.1 hq).1
        refine LW.q rfl (Qt.move rfl) ?_
        refine LW.q rfl (Qt.pick rfl rfl) ?_
        refine LW.q rfl (Qt.move rfl) ?_
        refine LW.split (t := 87) rfl (fun hal => ?_) (fun hal => ?_)
        ·
         try replace hal := of_decide_eq_true hal
         first | refine T.own (fun w ho => ?_) | refine LW.own (fun w ho => ?_)
         obtain ⟨gs, rfl⟩ : ∃ g, ps = some ⟨g, 0, none⟩ := (ho.slice_at (p := ps) (m := n) (c := cs)).2.1 (by omega)
         clear ho
         refine LW.q rfl (Qt.move rfl) ?_
         refine LW.q rfl (Qt.fieldAddr (off := 1) (by kernel_rfl) rfl) ?_
         first | refine LW.q rfl (Qt.load (by kernel_rfl) rfl rfl) ?_ | refine LW.q rfl (Qt.load (by kernel_rfl) rfl (map_at _ _ _ (by omega))) ?_ | refine LW.q rfl (Qt.load (by kernel_rfl) rfl (flat_cell0 _ _ _ (by intros; rfl) _ (by omega) (by rfl))) ?_ | refine LW.q rfl (Qt.load (by kernel_rfl) rfl (flat_cell _ _ _ (by intros; rfl) _ _ (by omega) (by rfl))) ?_ | refine LW.q rfl (Qt.load (by kernel_rfl) rfl (bytes_at _ _ (by omega))) ?_
         refine LW.q rfl (Qt.index t (e := 2) (sz := 1) (by kernel_rfl) rfl rfl htn (by omega)) ?_
         refine LW.q rfl (Qt.load (v := kZ x.snap) (by kernel_rfl) rfl (by rw [Nat.zero_add, Nat.mul_one, List.getElem?_map, hsn]; rfl)) ?_
         refine LW.q rfl (Qt.move rfl) ?_
         refine LW.q rfl (Qt.eql rfl rfl) ?_
         refine LW.q rfl (Qt.pick rfl rfl) ?_
         refine LW.done ?_
         first | refine T.condF rfl ?_ | refine T.condPF rfl ((fun e => hF.alone hx e (by rw [hst]; exact h120))) ?_ | refine T.condBF rfl ((fun e => hF.alone hx e (by rw [hst]; exact h120))) ?_
         refine T.skip ?_
         refine T.seq ?_
         refine T.seq ?_
         refine T.region ?_
         refine LW.q rfl (Qt.move rfl) ?_
         refine LW.q rfl (Qt.neq rfl rfl) ?_
         refine LW.q rfl (Qt.move rfl) ?_
         first | refine LW.gT (t := 98) rfl rfl ?_ | refine LW.gT (t := 98) rfl (decide_eq_true (hcd)) ?_ | refine LW.gT (t := 98) rfl (hcd) ?_
         refine LW.s rfl ?_
         refine LW.s rfl ?_
         refine LW.s rfl ?_
         refine LW.s rfl ?_
         refine LW.s rfl ?_
         refine LW.s rfl ?_
         refine LW.s rfl ?_
         refine LW.q rfl (Qt.pick rfl rfl) ?_
         refine LW.done ?_
         first | refine T.condT rfl ?_ | refine T.condPT rfl (rfl) ?_ | refine T.condBT rfl (rfl) ?_
         rw [← hl1]
         refine T.exit ?_
         refine T.region ?_
         refine LW.q rfl (Qt.add rfl rfl (wr64 (by omega) (by omega))) ?_
         refine LW.q rfl (Qt.move rfl) ?_
         refine LW.done ?_
         refine ⟨_, ?_, _, ⟨_, k + 1, m1, S, K, D, N + o.keys.length, some ⟨gs, 0, none⟩, cs, pk, n, ck, pd, nd, cd, m1.last, ⟨by omega, hF1.mono (Nat.le_add_right _ _) (Nat.le_refl _), by omega, hnk, hnd, by omega, rfl⟩, rfl, (updS rfl (updS rfl (updS rfl (updS rfl (updS rfl (updS rfl (updS rfl (updS rfl rfl)))))))), rfl⟩, Sub.any⟩
         first | omega | (simp; omega)
        ·
         try replace hal := of_decide_eq_false hal
         refine LW.s rfl ?_
         refine LW.s rfl ?_
         refine LW.s rfl ?_
         refine LW.s rfl ?_
         refine LW.s rfl ?_
         refine LW.s rfl ?_
         refine LW.s rfl ?_
         refine LW.q rfl (Qt.pick rfl rfl) ?_
         refine LW.done ?_
         first | refine T.condF rfl ?_ | refine T.condPF rfl (rfl) ?_ | refine T.condBF rfl (rfl) ?_
         refine T.skip ?_
         refine T.seq ?_
         refine T.seq ?_
         refine T.region ?_
         refine LW.q rfl (Qt.move rfl) ?_
         refine LW.q rfl (Qt.neq rfl rfl) ?_
         refine LW.q rfl (Qt.move rfl) ?_
         first | refine LW.gT (t := 98) rfl rfl ?_ | refine LW.gT (t := 98) rfl (decide_eq_true (hcd)) ?_ | refine LW.gT (t := 98) rfl (hcd) ?_
         refine LW.s rfl ?_
         refine LW.s rfl ?_
         refine LW.s rfl ?_
         refine LW.s rfl ?_
         refine LW.s rfl ?_
         refine LW.s rfl ?_
         refine LW.s rfl ?_
         refine LW.q rfl (Qt.pick rfl rfl) ?_
         refine LW.done ?_
         first | refine T.condT rfl ?_ | refine T.condPT rfl (rfl) ?_ | refine T.condBT rfl (rfl) ?_
         rw [← hl1]
         refine T.exit ?_
         refine T.region ?_
         refine LW.q rfl (Qt.add rfl rfl (wr64 (by omega) (by omega))) ?_
         refine LW.q rfl (Qt.move rfl) ?_
         refine LW.done ?_
         refine ⟨_, ?_, _, ⟨_, k + 1, m1, S, K, D, N + o.keys.length, ps, cs, pk, n, ck, pd, nd, cd, m1.last, ⟨by omega, hF1.mono (Nat.le_add_right _ _) (Nat.le_refl _), by omega, hnk, hnd, by omega, rfl⟩, rfl, (updS rfl (updS rfl (updS rfl (updS rfl (updS rfl (updS rfl (updS rfl (updS rfl rfl)))))))), rfl⟩, Sub.any⟩
         first | omega | (simp; omega)
       ·
        try replace h120 := of_decide_eq_false h120
        refine LW.s rfl ?_
        refine LW.q rfl (Qt.pick rfl rfl) ?_
        refine LW.q rfl (Qt.move rfl) ?_
        first | refine LW.gF (t := 87) rfl rfl ?_ | refine LW.gF (t := 87) rfl (decide_eq_false (rfl)) ?_ | refine LW.gF (t := 87) rfl (rfl) ?_
        refine LW.s rfl ?_
        refine LW.s rfl ?_
        refine LW.s rfl ?_
        refine LW.s rfl ?_
        refine LW.s rfl ?_
        refine LW.s rfl ?_
        refine LW.s rfl ?_
        refine LW.q rfl (Qt.pick rfl rfl) ?_
        refine LW.done ?_
        first | refine T.condF rfl ?_ | refine T.condPF rfl (rfl) ?_ | refine T.condBF rfl (rfl) ?_
        refine T.skip ?_
        refine T.seq ?_
        refine T.seq ?_
        refine T.region ?_
        refine LW.q rfl (Qt.move rfl) ?_
        refine LW.q rfl (Qt.neq rfl rfl) ?_
        refine LW.q rfl (Qt.move rfl) ?_
        first | refine LW.gT (t := 98) rfl rfl ?_ | refine LW.gT (t := 98) rfl (decide_eq_true (hcd)) ?_ | refine LW.gT (t := 98) rfl (hcd) ?_
        refine LW.s rfl ?_
        refine LW.s rfl ?_
        refine LW.s rfl ?_
        refine LW.s rfl ?_
        refine LW.s rfl ?_
        refine LW.s rfl ?_
        refine LW.s rfl ?_
        refine LW.q rfl (Qt.pick rfl rfl) ?_
        refine LW.done ?_
        first | refine T.condT rfl ?_ | refine T.condPT rfl (rfl) ?_ | refine T.condBT rfl (rfl) ?_
        rw [← hl1]
        refine T.exit ?_
        refine T.region ?_
        refine LW.q rfl (Qt.add rfl rfl (wr64 (by omega) (by omega))) ?_
        refine LW.q rfl (Qt.move rfl) ?_
        refine LW.done ?_
        refine ⟨_, ?_, _, ⟨_, k + 1, m1, S, K, D, N + o.keys.length, ps, cs, pk, n, ck, pd, nd, cd, m1.last, ⟨by omega, hF1.mono (Nat.le_add_right _ _) (Nat.le_refl _), by omega, hnk, hnd, by omega, rfl⟩, rfl, (updS rfl (updS rfl (updS rfl (updS rfl (updS rfl (updS rfl (updS rfl (updS rfl rfl)))))))), rfl⟩, Sub.any⟩
        first | omega | (simp; omega)
     ·
      refine T.seq ?_
      refine T.region ?_
      refine LW.q rfl (Qt.eql rfl rfl) ?_
      refine LW.q rfl (Qt.assign rfl) ?_
      refine LW.done ?_
      refine T.condP rfl (fun k4 => ?_) (fun k4 => ?_)
      ·
       refine T.draw 6 ([blk g9 [.int .i64 o.kind, .int .i64 o.txn, .slice da o.keys.length dc, .int .i64 o.n] 30]) (by kernel_rfl) (Nat.le_of_ble_eq_true rfl) (by kernel_rfl) ?_
       refine RW.q 0 rfl rfl (by kernel_rfl) Sub.any (Qt.move rfl) ?_
       refine RW.q 1 rfl rfl (by kernel_rfl) Sub.any (Qt.nilCheck rfl) ?_
       refine RW.q 2 rfl rfl (by kernel_rfl) Sub.any (Qt.fieldAddr0 (by kernel_rfl) rfl) ?_
       refine RW.q 3 rfl rfl (by kernel_rfl) Sub.any (Qt.fieldAddr (off := 3) (by kernel_rfl) rfl) ?_
       first | refine RW.q 4 rfl rfl (by kernel_rfl) Sub.any (Qt.load (by kernel_rfl) rfl rfl) ?_ | refine RW.q 4 rfl rfl (by kernel_rfl) Sub.any (Qt.load (by kernel_rfl) rfl (map_at _ _ _ (by omega))) ?_ | refine RW.q 4 rfl rfl (by kernel_rfl) Sub.any (Qt.load (by kernel_rfl) rfl (flat_cell0 _ _ _ (by intros; rfl) _ (by omega) (by rfl))) ?_ | refine RW.q 4 rfl rfl (by kernel_rfl) Sub.any (Qt.load (by kernel_rfl) rfl (flat_cell _ _ _ (by intros; rfl) _ _ (by omega) (by rfl))) ?_ | refine RW.q 4 rfl rfl (by kernel_rfl) Sub.any (Qt.load (by kernel_rfl) rfl (bytes_at _ _ (by omega))) ?_
       refine RW.one 5 (by kernel_rfl) ?_
       refine RO.eS rfl rfl (Ef.call (Mv.tickI B g m o.n hI) Try.func15 rfl rfl rfl ?_)
       rintro _ _ ⟨m1, ht1, rfl, rfl⟩
       try simp only [List.cons_append, List.nil_append]
       refine ⟨Sub.any, ?_⟩
       refine RW.done (by rfl) ?_
       simp only [List.drop_succ_cons, List.drop_zero, List.drop_nil]
       refine LW.done ?_
       refine T.region ?_
       refine LW.q rfl (Qt.add rfl rfl (wr64 (by omega) (by omega))) ?_
       refine LW.q rfl (Qt.move rfl) ?_
       refine LW.done ?_
       rw [← ht1.last]
       refine ⟨_, ?_, _, ⟨_, k + 1, m1, S, K, D, N + o.keys.length, ps, cs, pk, n, ck, pd, nd, cd, m1.last, ⟨by omega, (hF.tick ht1).mono (Nat.le_add_right _ _) (Nat.le_refl _), by omega, hnk, hnd, by rw [ht1.last]; exact hl0, rfl⟩, rfl, (updS rfl (updS rfl (updS rfl (updS rfl (updS rfl (updS rfl (updS rfl (updS rfl rfl)))))))), rfl⟩, Sub.any⟩
       first | omega | (simp; omega)
      ·
       refine T.skip ?_
       refine T.region ?_
       refine LW.q rfl (Qt.add rfl rfl (wr64 (by omega) (by omega))) ?_
       refine LW.q rfl (Qt.move rfl) ?_
       refine LW.done ?_
       refine ⟨_, ?_, _, ⟨_, k + 1, m, S, K, D, N + o.keys.length, ps, cs, pk, n, ck, pd, nd, cd, m.last, ⟨by omega, hF.mono (Nat.le_add_right _ _) (Nat.le_succ _), by omega, hnk, hnd, hl0, rfl⟩, rfl, (updS rfl (updS rfl (updS rfl (updS rfl (updS rfl (updS rfl (updS rfl (updS rfl rfl)))))))), rfl⟩, Sub.any⟩
       first | omega | (simp; omega)
  ·
   refine T.exit ?_
   refine T.seq ?_
   refine T.region ?_
   refine LW.q rfl (Qt.move rfl) ?_
   refine LW.q rfl (Qt.nilCheck rfl) ?_
   refine LW.q rfl (Qt.fieldAddr0 (by kernel_rfl) rfl) ?_
   refine LW.e rfl (Ef.call (Mv.last B g m) Try.func16 rfl rfl rfl ?_)
   rintro _ _ ⟨rfl, rfl⟩
   try simp only [List.cons_append, List.nil_append]
   refine LW.q rfl (Qt.move rfl) ?_
   refine LW.q rfl (Qt.eql rfl rfl) ?_
   refine LW.q rfl (Qt.assign rfl) ?_
   refine LW.done ?_
   refine T.ret ?_
   exact ⟨.inl rfl, _, _, res [_] rfl ⟨rvT rfl, trivial⟩, ⟨by simp [outV], rfl⟩, Sub.any⟩
end Go.Proofs.Ytgfbjabjkjbnlaa

/- The law MvccFirst of annalslaw12 holds: for all arguments of bulk at most 1048576 the call returns true and the arguments read as before. Condition: the bound of the second form. -/
set_option linter.unusedSimpArgs false
set_option linter.unusedVariables false
namespace Go.Proofs.Ytgfbjabjkjbnlaa.mvccFirst
open Go.ChangeShapes Go.WideShapes Go.ChangeAt Go.RowKit
theorem bulk_one {H : Type} (a : DataW H) : Rows.uptoBulkAll [a] = Rows.uptoBulk a := by simp [Rows.uptoBulkAll]
theorem sum_le_succ {α : Type} (f : α → Nat) : ∀ l : List α, (l.map f).sum ≤ (l.map fun x => f x + 1).sum
  | [] => by simp
  | a :: l => by simp only [List.map_cons, List.sum_cons]; have := sum_le_succ f l; omega
set_option maxRecDepth 100000 in
theorem contract (H : Type) (enc : TypeId × Value → H) (W : World) (base : Nat) (args : Array Value) (ds gs : List (DataW H)) (before : List MemPlace)
    (hval : ∀ (j : Nat) t v, Try.f3.params[j]? = some t → args[j]? = some v → Value.okWide Try.prog W .any base t v)
    (hW : DataW.Whole enc Try.prog Try.f3.params.toList Rows.mvccFirstSpec.vars false W args.toList ds gs before) (hk : Rows.uptoSmall H (ds ++ gs) = true) :
    Calls Try.prog 3 args W fun e W' => ∃ v, e = .returned v ∧ Rows.mvccFirstSpec.post enc Try.prog Try.f3 false true false false W args v W' := by
  have hW0 := hW
  obtain ⟨p, q, hA0, hV, rfl, hfz, hnd⟩ := hW
  have hA : DataW.TrodAll enc Try.prog W 0 (fun _ => true) true Try.f3.params.toList args.toList ds p := hA0
  rw [Try.params3] at hA hval
  obtain ⟨v0, d0, rfl, rfl, h0⟩ := trodAll_one hA
  obtain ⟨rfl, rfl⟩ := trodVars_none hV
  have hbulk := Try.upto_bound hk
  rw [List.append_nil] at hbulk
  clear hA0 hV hk
  obtain ⟨sa0, sl0, sc0, rfl⟩ := okWide_slice Try.underlying22 (hval 0 22 v0 rfl rfl)
  obtain ⟨fu0, t0⟩ := h0
  obtain ⟨sv0, l0, hc0, hs0, hB0, hL0⟩ := open_slice_R (enc := enc) (P := Try.prog) (W := W) (R := OpMR W) (B := fun o => o.keys.length + 1) Try.underlying22 (show Try.prog.cellsOf 30 = 4 by kernel_rfl) (by omega) (fun n cs y => read_opM n cs y) t0
  simp only [Value.cells, List.cons.injEq, and_true] at hc0
  subst hc0
  dsimp only at hB0 hL0
  rw [bulk_one] at hbulk
  have hlen := len_le_sum (fun o : OpM => o.keys.length) l0
  have hsum := sum_le_succ (fun o : OpM => o.keys.length) l0

  refine (Fn.law (Mx.first _ _ l0 hs0.roLM (by omega) (by omega))).mono fun e W' ⟨he, hg⟩ => ?_
  subst he
  exact ⟨_, rfl, post_law Try.laidOut hW0 rfl rfl 4 Try.underlying4 (by kernel_rfl) (by rw [Try.params3]; decide +kernel) hg.toBelow⟩

set_option maxRecDepth 100000 in
theorem lifted (os : Os) (started : os.Started) (H : Type) (enc : TypeId × Value → H) (F : Stop.Interp) :
    ReturnsInHanded {} Try.checked os 3 .any ((Rows.OpenSpec.upto Rows.mvccFirstSpec).pre6 enc Try.prog Try.f3 Rows.mvccFirstUptoRow.domain false) (((Rows.OpenSpec.upto Rows.mvccFirstSpec).at F).post enc Try.prog Try.f3 false true false false) := by
  refine returnsInHanded_of_cond (C := Try.checked) (s := Rows.OpenSpec.upto Rows.mvccFirstSpec) (k := Rows.uptoSmall) rfl Try.own started (by kernel_rfl) Try.func3
    (OpenSpec.witness (enc := enc) (C := Try.checked) (s := Rows.OpenSpec.upto Rows.mvccFirstSpec) (k := Rows.uptoSmall) rfl false ⟨#[], #[.slice none 0 0], []⟩ 8 (by kernel_rfl) (by kernel_rfl) (by kernel_rfl)
      (x := ([.nil], [], [])) (by kernel_rfl) rfl (by kernel_rfl)) ?_
  intro W base args ds gs before hval hW _ hk _
  exact contract H enc W base args ds gs before hval hW hk

theorem over : Rows.mvccFirstUptoRow.holds Try.pinned (Rows.OpenSpec.upto Rows.mvccFirstSpec) :=
  OpenClaim.holds_of_cond 3 Try.f3 rfl rfl rfl rfl rfl rfl rfl ⟨rfl, rfl, rfl, rfl, rfl⟩ rfl rfl rfl rfl rfl (by kernel_rfl) Try.func3 (by kernel_rfl)
    (of_decide_eq_true (by kernel_rfl)) (by unfold Func.isWrapper; first | (rw [if_pos (by decide +kernel)]; kernel_rfl) | (rw [if_neg (by decide +kernel)]; exact ⟨rfl, rfl⟩))
    (fun os started H enc _ F => lifted os started H enc F)

theorem proved : Rows.MvccFirstUptoSaid := over
end Go.Proofs.Ytgfbjabjkjbnlaa.mvccFirst
