/- The texts BtI BtJ BtK BtL BtM BtN BtO, one behind the other: what the law leans on. Conditions: as each theorem says. -/
import Derived.Test.YtefognjcognknaaZRiBasf7
/- Lists of pairs put into and cut from; trees put together and taken apart, as lists. Conditions: none. -/
set_option linter.unusedSimpArgs false
set_option linter.unusedVariables false
namespace Go.Proofs.Ytefognjcognknaa
/-! lists of pairs -/
def putL (key : Str) (val : Int) : List KV → List KV
  | [] => [(key, val)]
  | p :: l => if sl p.1 key = true then p :: putL key val l else if p.1 = key then (key, val) :: l else (key, val) :: p :: l
def cutL (key : Str) (l : List KV) : List KV := l.filter fun p => decide (p.1 ≠ key)
theorem putL_left {key : Str} {val : Int} : ∀ {a b : List KV}, (∀ y ∈ a, sl y.1 key = true) → putL key val (a ++ b) = a ++ putL key val b
  | [], _, _ => rfl
  | p :: a, b, h => by
    rw [List.cons_append, putL, if_pos (h p (List.mem_cons_self ..)), putL_left (fun y hy => h y (List.mem_cons_of_mem _ hy)), List.cons_append]
theorem putL_gt {key : Str} {val : Int} {b : List KV} (h : ∀ y ∈ b, sl key y.1 = true) : putL key val b = (key, val) :: b := by
  cases b with
  | nil => rfl
  | cons p b =>
    have h1 := h p (List.mem_cons_self ..)
    rw [putL, if_neg (by rw [sl_asymm h1]; simp), if_neg (fun e => by rw [e, sl_irrefl] at h1; cases h1)]
theorem putL_right {key : Str} {val : Int} : ∀ {a b : List KV}, (∀ y ∈ b, sl key y.1 = true) → putL key val (a ++ b) = putL key val a ++ b
  | [], b, h => by rw [List.nil_append, putL_gt h]; rfl
  | p :: a, b, h => by
    rw [List.cons_append, putL, putL, putL_right h]
    split
    · rfl
    · split <;> rfl
theorem putL_here {key : Str} {val v : Int} {b : List KV} : putL key val ((key, v) :: b) = (key, val) :: b := by
  rw [putL, if_neg (by rw [sl_irrefl]; simp), if_pos rfl]
theorem putL_mem {key : Str} {val : Int} : ∀ {l : List KV} {y : KV}, y ∈ putL key val l → y = (key, val) ∨ y ∈ l
  | [], y, h => by rw [putL] at h; exact .inl (by simpa using h)
  | p :: l, y, h => by
    rw [putL] at h
    split at h
    · rcases List.mem_cons.1 h with h | h
      · exact .inr (by simp [h])
      · rcases putL_mem h with h | h
        · exact .inl h
        · exact .inr (List.mem_cons_of_mem _ h)
    · split at h
      · rcases List.mem_cons.1 h with h | h
        · exact .inl h
        · exact .inr (List.mem_cons_of_mem _ h)
      · rcases List.mem_cons.1 h with h | h
        · exact .inl h
        · exact .inr h
theorem putL_up {key : Str} {val : Int} : ∀ {l : List KV}, Up l → Up (putL key val l)
  | [], _ => List.pairwise_singleton _ _
  | p :: l, hu => by
    have h1 := List.pairwise_cons.1 hu
    rw [putL]
    split
    · rename_i h
      refine List.pairwise_cons.2 ⟨fun y hy => ?_, putL_up h1.2⟩
      rcases putL_mem hy with rfl | hy
      · exact h
      · exact h1.1 y hy
    · rename_i h
      split
      · rename_i e
        exact List.pairwise_cons.2 ⟨fun y hy => by have := h1.1 y hy; rw [e] at this; exact this, h1.2⟩
      · rename_i e
        have hk : sl key p.1 = true := by
          refine Bool.not_eq_false _ |>.mp fun e2 => ?_
          exact e (sl_tri (Bool.eq_false_iff.2 h) e2)
        refine List.pairwise_cons.2 ⟨fun y hy => ?_, hu⟩
        rcases List.mem_cons.1 hy with rfl | hy
        · exact hk
        · exact sl_trans hk (h1.1 y hy)
theorem putL_len {key : Str} {val : Int} : ∀ {l : List KV}, Up l → (putL key val l).length = l.length + (if (getL l key).isSome = true then 0 else 1)
  | [], _ => rfl
  | p :: l, hu => by
    have h1 := List.pairwise_cons.1 hu
    rw [putL]
    split
    · rename_i h
      have hn : getL (p :: l) key = getL l key := getL_append (a := [p]) (fun y hy => by simp at hy; subst hy; exact ne_of_sl h)
      rw [hn, List.length_cons, putL_len h1.2, List.length_cons]; omega
    · rename_i h
      split
      · rename_i e
        have hn : getL (p :: l) key = some p.2 := getL_at hu (i := 0) rfl e
        rw [hn]; simp
      · rename_i e
        have hk : sl key p.1 = true := by
          refine Bool.not_eq_false _ |>.mp fun e2 => ?_
          exact e (sl_tri (Bool.eq_false_iff.2 h) e2)
        have hn : getL (p :: l) key = none := getL_none fun y hy => by
          rcases List.mem_cons.1 hy with rfl | hy
          · exact e
          · exact (ne_of_sl (sl_trans hk (h1.1 y hy))).symm
        rw [hn]; simp
theorem cutL_append (key : Str) (a b : List KV) : cutL key (a ++ b) = cutL key a ++ cutL key b := List.filter_append ..
theorem cutL_none {key : Str} {a : List KV} (h : ∀ y ∈ a, y.1 ≠ key) : cutL key a = a := List.filter_eq_self.2 fun y hy => by simpa using h y hy
theorem cutL_up {key : Str} {l : List KV} (h : Up l) : Up (cutL key l) := h.sublist List.filter_sublist
theorem cutL_cons {key : Str} {v : Int} {b : List KV} (h : ∀ y ∈ b, y.1 ≠ key) : cutL key ((key, v) :: b) = b := by
  have e := cutL_none h
  unfold cutL at e ⊢
  rw [List.filter_cons_of_neg (by simp), e]
/-- A key's place in a list. -/
theorem Up.at {l : List KV} {a b : List KV} {p : KV} (hu : Up l) (e : l = a ++ p :: b) : (∀ y ∈ a, sl y.1 p.1 = true) ∧ ∀ y ∈ b, sl p.1 y.1 = true := by
  subst e
  have h1 := List.pairwise_append.1 hu
  exact ⟨fun y hy => h1.2.2 y hy p (List.mem_cons_self ..), (List.pairwise_cons.1 h1.2.1).1⟩
theorem cutL_at {a b : List KV} {p : KV} (hu : Up (a ++ p :: b)) : cutL p.1 (a ++ p :: b) = a ++ b := by
  obtain ⟨h1, h2⟩ := hu.at rfl
  rw [cutL_append, cutL_none (fun y hy => ne_of_sl (h1 y hy)), cutL_cons (fun y hy => (ne_of_sl (h2 y hy)).symm)]
theorem putL_at {a b : List KV} {p : KV} {val : Int} (hu : Up (a ++ p :: b)) : putL p.1 val (a ++ p :: b) = a ++ (p.1, val) :: b := by
  obtain ⟨h1, _⟩ := hu.at rfl
  rw [putL_left h1]
  exact congrArg _ putL_here
theorem putL_no {a b : List KV} {key : Str} {val : Int} (h1 : ∀ y ∈ a, sl y.1 key = true) (h2 : ∀ y ∈ b, sl key y.1 = true) : putL key val (a ++ b) = a ++ (key, val) :: b := by
  rw [putL_left h1, putL_gt h2]
theorem getL_isSome {l : List KV} {key : Str} : (getL l key).isSome = true ↔ ∃ v, (key, v) ∈ l := by
  unfold getL
  rw [Option.isSome_map]
  constructor
  · intro h
    obtain ⟨p, hp⟩ := Option.isSome_iff_exists.1 h
    have h1 := List.find?_some hp
    have h2 := List.mem_of_find?_eq_some hp
    refine ⟨p.2, ?_⟩
    have : p.1 = key := by simpa using h1
    subst this
    exact h2
  · rintro ⟨v, hv⟩
    rw [List.find?_isSome]
    exact ⟨_, hv, by simp⟩
theorem cutL_len {key : Str} {l : List KV} (hu : Up l) (h : (getL l key).isSome = true) : (cutL key l).length + 1 = l.length := by
  obtain ⟨v, hv⟩ := getL_isSome.1 h
  obtain ⟨a, b, rfl⟩ := List.append_of_mem hv
  rw [cutL_at hu]
  simp; omega
theorem cutL_no {key : Str} {l : List KV} (h : (getL l key).isSome = false) : cutL key l = l := cutL_none fun y hy e => by
  have : (getL l key).isSome = true := getL_isSome.2 ⟨y.2, by rw [← e]; exact hy⟩
  rw [h] at this; cases this
/-! trees as lists -/
theorem inter_cut {α : Type} : ∀ {A : List (List α)} {vs : List α} {v : α} {Bs : List (List α)} {ws : List α}, A.length = vs.length + 1 → inter (A ++ Bs) (vs ++ v :: ws) = inter A vs ++ v :: inter Bs ws
  | [], vs, v, Bs, ws, h => by simp at h
  | [a], [], v, Bs, ws, _ => by simp [inter]
  | [a], u :: vs, v, Bs, ws, h => by simp at h
  | a :: b :: A, [], v, Bs, ws, h => by simp at h
  | a :: b :: A, u :: vs, v, Bs, ws, h => by
    have ih := inter_cut (A := b :: A) (vs := vs) (v := v) (Bs := Bs) (ws := ws) (by simpa using h)
    show inter (a :: ((b :: A) ++ Bs)) (u :: (vs ++ v :: ws)) = _
    rw [inter, ih, inter, List.append_assoc, List.cons_append]
/-- Two neighbours and the key between them tell what one does that has them all. -/
theorem inter_mid {α : Type} : ∀ {A : List (List α)} {vs : List α} {l r : List α} {s : α} {S : List (List α)} {ws : List α}, A.length = vs.length → inter (A ++ l :: r :: S) (vs ++ s :: ws) = inter (A ++ (l ++ s :: r) :: S) (vs ++ ws)
  | [], [], l, r, s, S, ws, _ => by
    cases ws with
    | nil => simp [inter]
    | cons w ws => simp [inter]
  | [], u :: vs, _, _, _, _, _, h => by simp at h
  | a :: A, [], _, _, _, _, _, h => by simp at h
  | a :: A, u :: vs, l, r, s, S, ws, h => by
    have ih := inter_mid (A := A) (vs := vs) (l := l) (r := r) (s := s) (S := S) (ws := ws) (by simpa using h)
    rw [List.cons_append, List.cons_append, inter, ih, List.cons_append, List.cons_append, inter]
/-! kids of any height -/
def LK : Nat → Type
  | 0 => Empty
  | h + 1 => LT h
def LT.mk : (h : Nat) → Nd → List (LK h) → LT h
  | 0, x, _ => x
  | _ + 1, x, ks => (x, ks)
def LT.ksL : (h : Nat) → LT h → List (LK h)
  | 0, _ => []
  | _ + 1, t => t.2
def LK.nd : (h : Nat) → LK h → Nd
  | 0, e => e.elim
  | h + 1, k => LT.nd h k
def LK.a : (h : Nat) → LK h → Assn
  | 0, e => e.elim
  | h + 1, k => treeA h k
def LK.l : (h : Nat) → LK h → List KV
  | 0, e => e.elim
  | h + 1, k => toL h k
def LK.ok (o : Nat) : (h : Nat) → LK h → Prop
  | 0, e => e.elim
  | h + 1, k => okT o h false k
theorem LT.nd_mk : ∀ (h : Nat) (x : Nd) (ks : List (LK h)), LT.nd h (LT.mk h x ks) = x
  | 0, _, _ => rfl
  | _ + 1, _, _ => rfl
theorem LT.ksL_mk : ∀ {h : Nat} (x : Nd) (ks : List (LK h)), LT.ksL h (LT.mk h x ks) = ks
  | 0, _, [] => rfl
  | 0, _, e :: _ => e.elim
  | _ + 1, _, _ => rfl
theorem LT.eta : ∀ (h : Nat) (t : LT h), LT.mk h (LT.nd h t) (LT.ksL h t) = t
  | 0, _ => rfl
  | _ + 1, _ => rfl
def interK : (h : Nat) → List (LK h) → List KV → List KV
  | 0, _, vs => vs
  | h + 1, ks, vs => inter (ks.map (LK.l (h + 1))) vs
theorem toL_eq : ∀ (h : Nat) (t : LT h), toL h t = interK h (LT.ksL h t) (LT.nd h t).kv
  | 0, _ => rfl
  | _ + 1, _ => rfl
/-- Sizes, with the least number of keys given. -/
def okN (o lo : Nat) (h : Nat) (t : LT h) : Prop := (LT.nd h t).kv.length ≤ 2 * o - 1 ∧ lo ≤ (LT.nd h t).kv.length ∧ (h = 0 ∨ (LT.ksL h t).length = (LT.nd h t).kv.length + 1) ∧ ∀ k ∈ LT.ksL h t, LK.ok o h k
theorem okN_false {o : Nat} : ∀ {h : Nat} {t : LT h}, okT o h false t ↔ okN o (o - 1) h t
  | 0, t => ⟨fun h => ⟨h.1, h.2 rfl, .inl rfl, fun k hk => by cases hk⟩, fun h => ⟨h.1, fun _ => h.2.1⟩⟩
  | h + 1, t => ⟨fun k => ⟨k.1, k.2.1 rfl, .inr k.2.2.2.1, k.2.2.2.2⟩, fun k => ⟨k.1, fun _ => k.2.1, (fun e => nomatch e), k.2.2.1.resolve_left (by omega), k.2.2.2⟩⟩
theorem okN_true {o : Nat} : ∀ {h : Nat} {t : LT h}, okT o h true t ↔ okN o (if h = 0 then 0 else 1) h t
  | 0, t => ⟨fun h => ⟨h.1, Nat.zero_le _, .inl rfl, fun k hk => by cases hk⟩, fun h => ⟨h.1, (fun e => nomatch e)⟩⟩
  | h + 1, t => ⟨fun k => ⟨k.1, k.2.2.1 rfl, .inr k.2.2.2.1, k.2.2.2.2⟩, fun k => ⟨k.1, (fun e => nomatch e), fun _ => k.2.1, k.2.2.1.resolve_left (by omega), k.2.2.2⟩⟩
theorem okN.mono {o lo lo' h : Nat} {t : LT h} (hk : okN o lo h t) (hl : lo' ≤ lo) : okN o lo' h t := ⟨hk.1, by have := hk.2.1; omega, hk.2.2⟩
/-- A full node taken apart. -/
theorem toL_halves {h o : Nat} {q : LT h} {y z : Nd} (hl : (LT.nd h q).kv.length = 2 * o - 1) (ho : 1 ≤ o) (hk : h = 0 ∨ (LT.ksL h q).length = 2 * o) (hy : y.kv = (LT.nd h q).kv.take (o - 1)) (hz : z.kv = (LT.nd h q).kv.drop o) :
    toL h q = toL h (LT.mk h y ((LT.ksL h q).take o)) ++ (LT.nd h q).kv[o - 1]'(by omega) :: toL h (LT.mk h z ((LT.ksL h q).drop o)) := by
  have ev : (LT.nd h q).kv = (LT.nd h q).kv.take (o - 1) ++ (LT.nd h q).kv[o - 1]'(by omega) :: (LT.nd h q).kv.drop o := by
    have h1 := List.take_append_drop (o - 1) (LT.nd h q).kv
    have h2 := List.drop_eq_getElem_cons (l := (LT.nd h q).kv) (i := o - 1) (by omega)
    rw [show o - 1 + 1 = o by omega] at h2
    rw [← h2, h1]
  cases h with
  | zero =>
    show q.kv = y.kv ++ _ :: z.kv
    rw [hy, hz]; exact ev
  | succ h =>
    have hk := hk.resolve_left (by omega)
    show inter ((LT.ksL (h + 1) q).map (LK.l (h + 1))) (LT.nd (h + 1) q).kv = inter (((LT.ksL (h + 1) q).take o).map (LK.l (h + 1))) y.kv ++ _ :: inter (((LT.ksL (h + 1) q).drop o).map (LK.l (h + 1))) z.kv
    rw [hy, hz]
    have hc := inter_cut (A := ((LT.ksL (h + 1) q).take o).map (LK.l (h + 1))) (vs := (LT.nd (h + 1) q).kv.take (o - 1)) (v := (LT.nd (h + 1) q).kv[o - 1]'(by omega)) (Bs := ((LT.ksL (h + 1) q).drop o).map (LK.l (h + 1))) (ws := (LT.nd (h + 1) q).kv.drop o) (by
      rw [List.length_map, List.length_take, List.length_take]
      have : (LT.ksL (h + 1) q).length = 2 * o := hk
      omega)
    rw [← hc, ← ev, ← List.map_append, List.take_append_drop]
/-- Two nodes and a key put together. -/
theorem toL_merge {h : Nat} {l r : LT h} {y : Nd} {s : KV} (hk : h = 0 ∨ (LT.ksL h l).length = (LT.nd h l).kv.length + 1) (hy : y.kv = (LT.nd h l).kv ++ s :: (LT.nd h r).kv) :
    toL h (LT.mk h y (LT.ksL h l ++ LT.ksL h r)) = toL h l ++ s :: toL h r := by
  cases h with
  | zero => exact hy
  | succ h =>
    show inter ((LT.ksL (h + 1) l ++ LT.ksL (h + 1) r).map (LK.l (h + 1))) y.kv = inter ((LT.ksL (h + 1) l).map (LK.l (h + 1))) (LT.nd (h + 1) l).kv ++ s :: inter ((LT.ksL (h + 1) r).map (LK.l (h + 1))) (LT.nd (h + 1) r).kv
    rw [hy, List.map_append]
    exact inter_cut (by rw [List.length_map]; exact hk.resolve_left (by omega))
theorem getLast_cut {α : Type} {l : List α} (h : l ≠ []) : l = l.dropLast ++ [l.getLast h] := (List.dropLast_concat_getLast h).symm
/-- A key goes over from the left one to the right one. -/
theorem toL_over {h : Nat} {l r : LT h} {y z : Nd} {s e : KV} (hkl : h = 0 ∨ (LT.ksL h l).length = (LT.nd h l).kv.length + 1) (ek : (LT.nd h l).kv = y.kv ++ [e]) (hz : z.kv = s :: (LT.nd h r).kv) :
    toL h (LT.mk h y ((LT.ksL h l).take ((LT.nd h l).kv.length))) ++ e :: toL h (LT.mk h z ((LT.ksL h l).drop ((LT.nd h l).kv.length) ++ LT.ksL h r)) = toL h l ++ s :: toL h r := by
  cases h with
  | zero =>
    show y.kv ++ e :: z.kv = (LT.nd 0 l).kv ++ s :: (LT.nd 0 r).kv
    rw [ek, hz]; simp
  | succ h =>
    have hk := hkl.resolve_left (by omega)
    obtain ⟨n, hn⟩ : ∃ n, n = (LT.nd (h + 1) l).kv.length := ⟨_, rfl⟩
    rw [← hn] at hk ⊢
    have hy : y.kv.length + 1 = n := by rw [hn, ek]; simp
    have hlt : n < (LT.ksL (h + 1) l).length := by omega
    have e1 : (LT.ksL (h + 1) l).drop n = [(LT.ksL (h + 1) l)[n]] := by
      rw [List.drop_eq_getElem_cons hlt, List.drop_of_length_le (by omega)]
    show inter (((LT.ksL (h + 1) l).take n).map (LK.l (h + 1))) y.kv ++ e :: inter (((LT.ksL (h + 1) l).drop n ++ LT.ksL (h + 1) r).map (LK.l (h + 1))) z.kv = inter ((LT.ksL (h + 1) l).map (LK.l (h + 1))) (LT.nd (h + 1) l).kv ++ s :: inter ((LT.ksL (h + 1) r).map (LK.l (h + 1))) (LT.nd (h + 1) r).kv
    have e2 : inter ((LT.ksL (h + 1) l).map (LK.l (h + 1))) (LT.nd (h + 1) l).kv = inter (((LT.ksL (h + 1) l).take n).map (LK.l (h + 1))) y.kv ++ e :: inter (((LT.ksL (h + 1) l).drop n).map (LK.l (h + 1))) [] := by
      have := inter_cut (A := ((LT.ksL (h + 1) l).take n).map (LK.l (h + 1))) (vs := y.kv) (v := e) (Bs := ((LT.ksL (h + 1) l).drop n).map (LK.l (h + 1))) (ws := []) (by rw [List.length_map, List.length_take]; omega)
      rw [← this, ← List.map_append, List.take_append_drop, ek]
    rw [e2, e1, hz]
    simp [inter]
/-- A key goes over from the right one to the left one. -/
theorem toL_back {h : Nat} {l r : LT h} {y z : Nd} {s e : KV} (hkl : h = 0 ∨ (LT.ksL h l).length = (LT.nd h l).kv.length + 1) (hkr : h = 0 ∨ (LT.ksL h r).length = (LT.nd h r).kv.length + 1) (hy : y.kv = (LT.nd h l).kv ++ [s]) (ek : (LT.nd h r).kv = e :: z.kv) :
    toL h (LT.mk h y (LT.ksL h l ++ (LT.ksL h r).take 1)) ++ e :: toL h (LT.mk h z ((LT.ksL h r).drop 1)) = toL h l ++ s :: toL h r := by
  cases h with
  | zero =>
    show y.kv ++ e :: z.kv = (LT.nd 0 l).kv ++ s :: (LT.nd 0 r).kv
    rw [ek, hy]; simp
  | succ h =>
    have hk := hkl.resolve_left (by omega)
    have hk2 := hkr.resolve_left (by omega)
    show inter ((LT.ksL (h + 1) l ++ (LT.ksL (h + 1) r).take 1).map (LK.l (h + 1))) y.kv ++ e :: inter (((LT.ksL (h + 1) r).drop 1).map (LK.l (h + 1))) z.kv = inter ((LT.ksL (h + 1) l).map (LK.l (h + 1))) (LT.nd (h + 1) l).kv ++ s :: inter ((LT.ksL (h + 1) r).map (LK.l (h + 1))) (LT.nd (h + 1) r).kv
    rw [hy, ek, List.map_append]
    rw [inter_cut (by rw [List.length_map]; exact hk)]
    cases hr : LT.ksL (h + 1) r with
    | nil => rw [hr] at hk2; simp at hk2
    | cons k ks => simp [inter]
/-! a node's place for a key that one of its kids has -/
theorem spot_of_mem {K : List KV} {A : List (List KV)} {q : List KV} {S : List (List KV)} {key : Str} {v : Int} (hu : Up (inter (A ++ q :: S) K)) (h1 : A.length ≤ K.length) (h2 : S.length = K.length - A.length) (hm : (key, v) ∈ q) :
    spot (K.map (·.1)) key = A.length ∧ (K.map (·.1))[spot (K.map (·.1)) key]? ≠ some key := by
  rw [inter_split A q S K h1 h2] at hu
  have hp := List.pairwise_append.1 hu
  have hp2 := List.pairwise_append.1 hp.2.1
  have hl : ∀ (A : List (List KV)) (vs : List KV), A.length = vs.length → ∀ x ∈ vs, x ∈ lefts A vs := by
    intro A
    induction A with
    | nil => intro vs hv x hx; cases vs with
      | nil => cases hx
      | cons v vs => simp at hv
    | cons a A ih => intro vs hv x hx; cases vs with
      | nil => cases hx
      | cons v vs =>
        rw [lefts]
        rcases List.mem_cons.1 hx with rfl | hx
        · simp
        · exact List.mem_append_right _ (List.mem_cons_of_mem _ (ih vs (by simpa using hv) x hx))
  have hr : ∀ (vs : List KV) (S : List (List KV)), S.length = vs.length → ∀ x ∈ vs, x ∈ rights vs S := by
    intro vs
    induction vs with
    | nil => intro S _ x hx; cases hx
    | cons v vs ih => intro S hv x hx; cases S with
      | nil => simp at hv
      | cons s S =>
        rw [rights]
        rcases List.mem_cons.1 hx with rfl | hx
        · simp
        · exact List.mem_cons_of_mem _ (List.mem_append_right _ (ih S (by simpa using hv) x hx))
  have hlt : ∀ x ∈ K.take A.length, sl x.1 key = true := fun x hx => hp.2.2 x (hl A _ (by rw [List.length_take]; omega) x hx) (key, v) (List.mem_append_left _ hm)
  have hgt : ∀ x ∈ K.drop A.length, sl key x.1 = true := fun x hx => hp2.2.2 (key, v) hm x (hr _ S (by rw [List.length_drop]; omega) x hx)
  have hsp : spot (K.map (·.1)) key = A.length := by
    refine spot_eq (by simpa using h1) (fun k s hk hs => ?_) (fun s hs => ?_)
    · rw [List.getElem?_map] at hs
      obtain ⟨x, hx, rfl⟩ := Option.map_eq_some_iff.1 hs
      exact hlt x (List.mem_take_iff_getElem.2 ⟨k, by obtain ⟨h, _⟩ := List.getElem?_eq_some_iff.1 hx; omega, (List.getElem?_eq_some_iff.1 hx).2⟩)
    · rw [List.getElem?_map] at hs
      obtain ⟨x, hx, rfl⟩ := Option.map_eq_some_iff.1 hs
      refine sl_asymm (hgt x ?_)
      obtain ⟨h, e⟩ := List.getElem?_eq_some_iff.1 hx
      rw [List.drop_eq_getElem_cons h, e]
      exact List.mem_cons_self ..
  refine ⟨hsp, fun e => ?_⟩
  rw [hsp, List.getElem?_map] at e
  obtain ⟨x, hx, e2⟩ := Option.map_eq_some_iff.1 e
  obtain ⟨h, e3⟩ := List.getElem?_eq_some_iff.1 hx
  have := hgt x (by rw [List.drop_eq_getElem_cons h, e3]; exact List.mem_cons_self ..)
  rw [e2, sl_irrefl] at this; cases this
/-! paths -/
def Cx.lf {H : Nat} : {h : Nat} → Cx H h → List KV
  | _, .top => []
  | _, .down c x L1 _ => c.lf ++ lefts (L1.map (toL _)) (x.kv.take L1.length)
def Cx.rg {H : Nat} : {h : Nat} → Cx H h → List KV
  | _, .top => []
  | _, .down c x L1 L2 => rights (x.kv.drop L1.length) (L2.map (toL _)) ++ c.rg
def Cx.lo {H : Nat} (o m : Nat) : {h : Nat} → Cx H h → Nat
  | _, .top => m
  | _, .down .. => o - 1
def Cx.ok {H : Nat} (o m : Nat) : {h : Nat} → Cx H h → Prop
  | _, .top => True
  | _, .down (h := h) c x L1 L2 => x.kv.length ≤ 2 * o - 1 ∧ c.lo o m ≤ x.kv.length ∧ L1.length + L2.length = x.kv.length ∧ (∀ k ∈ L1, okT o h false k) ∧ (∀ k ∈ L2, okT o h false k) ∧ c.ok o m
theorem Cx.toL_plug {H o m : Nat} : ∀ {h : Nat} {c : Cx H h} {t : LT h}, c.ok o m → toL H (c.plug t) = c.lf ++ toL h t ++ c.rg
  | _, .top, t, _ => by simp [Cx.lf, Cx.rg, Cx.plug]
  | _, .down (h := h) c x L1 L2, t, hk => by
    have ih := Cx.toL_plug (c := c) (t := (show LT (h + 1) from (x, L1 ++ t :: L2))) hk.2.2.2.2.2
    show toL H (c.plug (show LT (h + 1) from (x, L1 ++ t :: L2))) = _
    rw [ih]
    show c.lf ++ inter ((L1 ++ t :: L2).map (toL h)) x.kv ++ c.rg = (c.lf ++ lefts (L1.map (toL _)) (x.kv.take L1.length)) ++ toL h t ++ (rights (x.kv.drop L1.length) (L2.map (toL _)) ++ c.rg)
    rw [List.map_append, List.map_cons, inter_split _ _ _ _ (by rw [List.length_map]; have := hk.2.2.1; omega) (by rw [List.length_map, List.length_map]; have := hk.2.2.1; omega), List.length_map]
    simp
theorem Cx.ok_plug {H o m : Nat} : ∀ {h : Nat} {c : Cx H h} {t : LT h}, c.ok o m → okN o (c.lo o m) h t → okN o m H (c.plug t)
  | _, .top, t, _, ht => ht
  | _, .down (h := h) c x L1 L2, t, hk, ht => by
    refine Cx.ok_plug (c := c) (t := (show LT (h + 1) from (x, L1 ++ t :: L2))) hk.2.2.2.2.2 ⟨hk.1, hk.2.1, .inr ?_, fun k hm => ?_⟩
    · show (L1 ++ t :: L2).length = x.kv.length + 1
      have := hk.2.2.1
      simp; omega
    · have hm : k ∈ L1 ++ t :: L2 := hm
      rcases List.mem_append.1 hm with h1 | h1
      · exact hk.2.2.2.1 k h1
      · rcases List.mem_cons.1 h1 with rfl | h1
        · exact okN_false.2 ht
        · exact hk.2.2.2.2.1 k h1
end Go.Proofs.Ytefognjcognknaa

/- btree: trees taken apart and put together in memory; split over trees; New. Conditions: sizes. -/
set_option linter.unusedSimpArgs false
set_option linter.unusedVariables false
namespace Go.Proofs.Ytefognjcognknaa
open Go.RowKit
theorem Fn.conv {P : Program} {B : Base} {g : FuncId} {args : Array Value} {pre pre' F' : List Assn} {R R' : Value → List Assn → Prop} (h : Fn P B g args pre R) (hp : Sub pre' (pre ++ F')) (hr : ∀ v l', R v l' → ∃ l2, Sub (l' ++ F') l2 ∧ R' v l2) : Fn P B g args pre' R' := ⟨fun w F0 ho => by
  have ho' : Own B w (pre ++ (F' ++ F0)) := ho.map fun hh H => by
    obtain ⟨h1, h2, d, a, b, e1, e2⟩ := Has.split H
    rw [← List.append_assoc]
    exact Has.join d a b (hp _ e1) e2
  refine (h.run w (F' ++ F0) ho').mono ?_
  rintro _ w' ⟨v, l', rfl, hR, ho2⟩
  obtain ⟨l2, hs, hR'⟩ := hr v l' hR
  refine ⟨v, l2, rfl, hR', ho2.map fun hh H => ?_⟩
  rw [← List.append_assoc] at H
  obtain ⟨h1, h2, d, a, b, e1, e2⟩ := Has.split H
  exact Has.join d a b (hs _ e1) e2⟩
theorem Fn.exPre {P : Program} {B : Base} {g : FuncId} {args : Array Value} {α : Type} {pre : List Assn} {pre' : α → List Assn} {R : Value → List Assn → Prop} (ho : ∀ h, Has pre h → ∃ x, Has (pre' x) h) (h : ∀ x, Fn P B g args (pre' x) R) : Fn P B g args pre R := ⟨fun w F hw => by
  obtain ⟨q, a, b, H⟩ := hw.has
  obtain ⟨h1, h2, d, a1, b1, e1, e2⟩ := Has.split H
  obtain ⟨x, hx⟩ := ho _ e1
  exact (h x).run w F ⟨hw.os, hw.tape, hw.output, hw.ro, q, a, b, Has.join d a1 b1 hx e2⟩⟩
theorem Has.sep_out {A A' m : List Assn} {k : Piece} (H : Has (sepL (A ++ A') :: m) k) : Has (sepL A :: sepL A' :: m) k := by
  have H1 := Has.open_sepL H
  obtain ⟨k1, k2, d, a, b, K1, K2⟩ := Has.split H1
  obtain ⟨k3, k4, d2, a2, b2, K3, K4⟩ := Has.split K1
  refine Has.close_sepL (Has.join (d2.disj_symm.disj_le (Piece.le_refl _) |>.disj_symm.disj_symm.disj_symm |> fun _ => (Piece.disj.disj_symm (Piece.add_disj d2.disj_symm (d.disj_symm.disj_le a2).disj_symm.disj_symm))) (a2.le_trans a) (Piece.add_le (b2.le_trans a) b) K3 (Has.close_sepL (Has.join (d.disj_symm.disj_le b2).disj_symm (Piece.le_add_left _ _) (Piece.le_add_right (d.disj_symm.disj_le b2).disj_symm) K4 K2)))
theorem Has.sep_in {A A' m : List Assn} {k : Piece} (H : Has (sepL A :: sepL A' :: m) k) : Has (sepL (A ++ A') :: m) k := by
  refine Has.close_sepL ?_
  have H1 := Has.open_sepL H
  rw [List.append_assoc]
  obtain ⟨k1, k2, d, a, b, K1, K2⟩ := Has.split H1
  exact Has.join d a b K1 (Has.open_sepL K2)
theorem treeL_mk : ∀ {h : Nat} {x : Nd} {ks : List (LK h)}, treeL h (LT.mk h x ks) = nodeL x (ks.map fun q => (LK.nd h q).p) ++ [sepL (ks.map (LK.a h))]
  | 0, _, [] => rfl
  | 0, _, e :: _ => e.elim
  | _ + 1, _, _ => rfl
/-- A tree opened, its kids as a list of any height. -/
theorem Has.openM {h : Nat} {x : Nd} {ks : List (LK h)} {m : List Assn} {k : Piece} (H : Has (treeA h (LT.mk h x ks) :: m) k) : Has (nodeL x (ks.map fun q => (LK.nd h q).p) ++ sepL (ks.map (LK.a h)) :: m) k := by
  have H1 := Has.openT H
  rw [treeL_mk] at H1
  exact H1
theorem Has.closeM {h : Nat} {x : Nd} {ks : List (LK h)} {m : List Assn} {k : Piece} (H : Has (nodeL x (ks.map fun q => (LK.nd h q).p) ++ sepL (ks.map (LK.a h)) :: m) k) : Has (treeA h (LT.mk h x ks) :: m) k := by
  refine Has.closeT (t := LT.mk h x ks) ?_
  rw [treeL_mk]
  exact H
theorem Has.nodeC {x : Nd} {ps : List Nat} {m1 m3 : Nat} {xs1 xs2 xs3 : List Value} {l : List Assn} {k : Piece} (e1 : m1 = x.kv.length) (e3 : m3 = ps.length) (h1 : xs1 = x.ks.map kT) (h2 : xs2 = x.vs.map iV) (h3 : xs3 = ps.map pV)
    (H : Has (blk x.p [.slice x.ka m1 x.kc, .slice x.va m1 x.vc, .slice x.ca m3 x.cc] 98 :: row (.slice x.ka m1 x.kc) 9 1 m1 xs1 :: row (.slice x.va m1 x.vc) 2 1 m1 xs2 :: row (.slice x.ca m3 x.cc) 95 1 m3 xs3 :: l) k) : Has (nodeL x ps ++ l) k := by
  subst e1; subst e3; subst h1; subst h2; subst h3
  exact H
abbrev LT.p (h : Nat) (t : LT h) : Nat := (LT.nd h t).p
/-- Two neighbours among kids. -/
theorem Has.kids2_out {h : Nat} {L1 L2 : List (LT h)} {l r : LT h} {m : List Assn} {k : Piece} (H : Has (sepL ((L1 ++ l :: r :: L2).map (treeA h)) :: m) k) : Has (treeA h l :: treeA h r :: sepL (L1.map (treeA h)) :: sepL (L2.map (treeA h)) :: m) k := by
  refine Has.cons_imp (fun _ K => ?_) (Has.kid_out (L1 := L1) (L2 := r :: L2) H)
  refine Has.swap (Has.cons_imp (fun _ K => ?_) K)
  exact Has.kid_out (L1 := []) (L2 := L2) K |> Has.cons_imp (fun _ K => K.tail)
theorem Has.kids2_in {h : Nat} {L1 L2 : List (LT h)} {l r : LT h} {m : List Assn} {k : Piece} (H : Has (treeA h l :: treeA h r :: sepL (L1.map (treeA h)) :: sepL (L2.map (treeA h)) :: m) k) : Has (sepL ((L1 ++ l :: r :: L2).map (treeA h)) :: m) k := by
  refine Has.kid_in (L1 := L1) (L2 := r :: L2) (Has.cons_imp (fun _ K => ?_) H)
  refine Has.cons_imp (fun _ K => ?_) (Has.swap K)
  have K1 : Has (sepL [treeA h r] :: sepL (L2.map (treeA h)) :: m) _ := Has.close_sepL (l := [treeA h r]) K
  exact Has.sep_in K1
/-- split, over trees. -/
theorem Bt.splitT (B : Base) (g o r cnt h : Nat) (x : Nd) (L1 L2 : List (LT h)) (q : LT h) (ho : 2 ≤ o) (ho2 : o ≤ 64) (hl : L1.length + L2.length = x.kv.length) (hx : x.kv.length < 2 ^ 39) (hq : (LT.nd h q).kv.length = 2 * o - 1) (hqk : okT o h false q) :
    Fn Try.prog B 43 #[pV g, pV x.p, .int .i64 L1.length] [trB g o r cnt, treeA (h + 1) (LT.mk (h + 1) x (L1 ++ q :: L2))] (fun u l => ∃ (x' : Nd) (q1 q2 : LT h), x'.p = x.p ∧ (∃ m, x'.kv = x.kv.take L1.length ++ m :: x.kv.drop L1.length) ∧
      toL (h + 1) (LT.mk (h + 1) x' (L1 ++ q1 :: q2 :: L2)) = toL (h + 1) (LT.mk (h + 1) x (L1 ++ q :: L2)) ∧ okT o h false q1 ∧ okT o h false q2 ∧ (LT.nd h q1).kv.length = o - 1 ∧ (LT.nd h q2).kv.length = o - 1 ∧
      l = [trB g o r cnt, treeA (h + 1) (LT.mk (h + 1) x' (L1 ++ q1 :: q2 :: L2))]) := by
  have hqN := okN_false.1 hqk
  have hks : h = 0 ∨ (LT.ksL h q).length = 2 * o := hqN.2.2.1.imp id (fun e => by omega)
  have hkps : (LT.ksL h q).map (fun k => (LK.nd h k).p) = [] ∨ ((LT.ksL h q).map fun k => (LK.nd h k).p).length = 2 * o := by
    rcases hks with e | e
    · subst e; exact .inl rfl
    · exact .inr (by simpa using e)
  refine Fn.conv (F' := [sepL (L1.map (treeA h)), sepL (L2.map (treeA h)), sepL ((LT.ksL h q).map (LK.a h))]) (Bt.split B g o r cnt x (LT.nd h q) ((L1 ++ q :: L2).map fun k => (LT.nd h k).p) ((LT.ksL h q).map fun k => (LK.nd h k).p) L1.length ho ho2 (by simp) (by omega) hx (by simp; omega) hq hkps) ?_ ?_
  · intro k K
    have K1 := Has.cons_imp (fun _ K => Has.openM (h := h + 1) K) K
    have K2 : Has (trB g o r cnt :: (nodeL x ((L1 ++ q :: L2).map fun k => (LT.nd h k).p) ++ sepL ((L1 ++ q :: L2).map (treeA h)) :: [])) k := K1
    have K3 : Has (trB g o r cnt :: (nodeL x ((L1 ++ q :: L2).map fun k => (LT.nd h k).p) ++ treeA h (LT.mk h (LT.nd h q) (LT.ksL h q)) :: sepL (L1.map (treeA h)) :: sepL (L2.map (treeA h)) :: [])) k := by
      refine Has.cons_imp (fun _ K => ?_) K2
      refine Has.cons_imp (fun _ K => Has.cons_imp (fun _ K => Has.cons_imp (fun _ K => Has.cons_imp (fun _ K => ?_) K) K) K) K
      rw [LT.eta]
      exact Has.kid_out K
    have K4 : Has (trB g o r cnt :: (nodeL x ((L1 ++ q :: L2).map fun k => (LT.nd h k).p) ++ (nodeL (LT.nd h q) ((LT.ksL h q).map fun k => (LK.nd h k).p) ++ sepL ((LT.ksL h q).map (LK.a h)) :: sepL (L1.map (treeA h)) :: sepL (L2.map (treeA h)) :: []))) k := by
      refine Has.cons_imp (fun _ K => ?_) K3
      exact Has.cons_imp (fun _ K => Has.cons_imp (fun _ K => Has.cons_imp (fun _ K => Has.cons_imp (fun _ K => Has.openM K) K) K) K) K
    simp only [nodeL, List.cons_append, List.nil_append] at K4 ⊢
    exact Sub.any k K4
  · rintro v l' ⟨x', k1, k2, e1, e2, e3, e4, e5, hv, rfl⟩
    have ek : x.kv = x.kv.take L1.length ++ x.kv.drop L1.length := (List.take_append_drop ..).symm
    have hh := toL_halves (h := h) (o := o) (q := q) (y := k1) (z := k2) hq (by omega) hks e4 e5
    refine ⟨_, fun k K => ?_, x', LT.mk h k1 ((LT.ksL h q).take o), LT.mk h k2 ((LT.ksL h q).drop o), e1, ?_, ?_, ?_, ?_, ?_, ?_, rfl⟩
    · have hps : ((L1 ++ q :: L2).map fun k => (LT.nd h k).p).take (L1.length + 1) ++ k2.p :: ((L1 ++ q :: L2).map fun k => (LT.nd h k).p).drop (L1.length + 1) = (L1 ++ LT.mk h k1 ((LT.ksL h q).take o) :: LT.mk h k2 ((LT.ksL h q).drop o) :: L2).map fun k => (LT.nd h k).p := by
        have e : (L1 ++ q :: L2).map (fun k => (LT.nd h k).p) = (L1.map (fun k => (LT.nd h k).p) ++ [(LT.nd h q).p]) ++ L2.map (fun k => (LT.nd h k).p) := by simp
        rw [e, List.take_left' (by simp), List.drop_left' (by simp)]
        simp [LT.nd_mk, e2]
      rw [hps, ← List.map_take, ← List.map_drop] at K
      have K1 : Has (nodeL k1 (((LT.ksL h q).take o).map fun k => (LK.nd h k).p) ++ (nodeL k2 (((LT.ksL h q).drop o).map fun k => (LK.nd h k).p) ++ (sepL ((LT.ksL h q).map (LK.a h)) :: sepL (L1.map (treeA h)) :: sepL (L2.map (treeA h)) :: (nodeL x' ((L1 ++ LT.mk h k1 ((LT.ksL h q).take o) :: LT.mk h k2 ((LT.ksL h q).drop o) :: L2).map fun k => (LT.nd h k).p) ++ [trB g o r cnt])))) k := by
        simp only [nodeL, List.cons_append, List.nil_append] at K ⊢
        exact Sub.any k K
      have K2 : Has (nodeL k1 (((LT.ksL h q).take o).map fun k => (LK.nd h k).p) ++ (sepL (((LT.ksL h q).take o).map (LK.a h)) :: (nodeL k2 (((LT.ksL h q).drop o).map fun k => (LK.nd h k).p) ++ (sepL (((LT.ksL h q).drop o).map (LK.a h)) :: (sepL (L1.map (treeA h)) :: sepL (L2.map (treeA h)) :: (nodeL x' ((L1 ++ LT.mk h k1 ((LT.ksL h q).take o) :: LT.mk h k2 ((LT.ksL h q).drop o) :: L2).map fun k => (LT.nd h k).p) ++ [trB g o r cnt])))))) k := by
        have K3 := Has.cons_imp (fun _ K => Has.cons_imp (fun _ K => Has.cons_imp (fun _ K => Has.cons_imp (fun _ K => Has.cons_imp (fun _ K => Has.cons_imp (fun _ K => Has.cons_imp (fun _ K => Has.cons_imp (fun _ K => Has.sep_out (A := ((LT.ksL h q).take o).map (LK.a h)) (A' := ((LT.ksL h q).drop o).map (LK.a h)) (by rw [← List.map_append, List.take_append_drop]; exact K)) K) K) K) K) K) K) K) K1
        simp only [nodeL, List.cons_append, List.nil_append] at K3 ⊢
        exact Sub.any k K3
      have K4 := Has.closeM K2
      have K5 := Has.cons_imp (fun _ K => Has.closeM K) K4
      have K6 := Has.kids2_in K5
      have K7 : Has (nodeL x' ((L1 ++ LT.mk h k1 ((LT.ksL h q).take o) :: LT.mk h k2 ((LT.ksL h q).drop o) :: L2).map fun k => (LT.nd h k).p) ++ (sepL ((L1 ++ LT.mk h k1 ((LT.ksL h q).take o) :: LT.mk h k2 ((LT.ksL h q).drop o) :: L2).map (treeA h)) :: [trB g o r cnt])) k := by
        simp only [nodeL, List.cons_append, List.nil_append] at K6 ⊢
        exact Sub.any k K6
      exact Has.swap (Has.closeM (h := h + 1) (x := x') (ks := L1 ++ LT.mk h k1 ((LT.ksL h q).take o) :: LT.mk h k2 ((LT.ksL h q).drop o) :: L2) K7)
    · exact ⟨_, e3⟩
    · show inter ((L1 ++ _ :: _ :: L2).map (toL h)) x'.kv = inter ((L1 ++ q :: L2).map (toL h)) x.kv
      rw [e3, List.map_append, List.map_cons, List.map_cons, inter_mid (by rw [List.length_map, List.length_take]; omega), ← hh, List.take_append_drop, List.map_append, List.map_cons]
    · refine okN_false.2 ⟨?_, ?_, ?_, ?_⟩
      · rw [LT.nd_mk, e4, List.length_take]; omega
      · rw [LT.nd_mk, e4, List.length_take]; omega
      · rw [LT.nd_mk, LT.ksL_mk, e4, List.length_take, List.length_take]
        rcases hks with e | e
        · exact .inl e
        · exact .inr (by omega)
      · rw [LT.ksL_mk]; exact fun k hk => hqN.2.2.2 k (List.mem_of_mem_take hk)
    · refine okN_false.2 ⟨?_, ?_, ?_, ?_⟩
      · rw [LT.nd_mk, e5, List.length_drop]; omega
      · rw [LT.nd_mk, e5, List.length_drop]; omega
      · rw [LT.nd_mk, LT.ksL_mk, e5, List.length_drop, List.length_drop]
        rcases hks with e | e
        · exact .inl e
        · exact .inr (by omega)
      · rw [LT.ksL_mk]; exact fun k hk => hqN.2.2.2 k (List.mem_of_mem_drop hk)
    · rw [LT.nd_mk, e4, List.length_take]; omega
    · rw [LT.nd_mk, e5, List.length_drop]; omega
/-- A tree: its order, its pairs. -/
def btA (g o : Nat) (L : List KV) : Assn := exA fun (p : (H : Nat) × LT H) => sepL [pu (okT o p.1 true p.2 ∧ toL p.1 p.2 = L ∧ Up L ∧ 2 ≤ o ∧ o ≤ 64), trB g o (LT.nd p.1 p.2).p L.length, treeA p.1 p.2]
theorem Has.bt_out {g o : Nat} {L : List KV} {m : List Assn} {k : Piece} (H : Has (btA g o L :: m) k) : ∃ (p : (H : Nat) × LT H), (okT o p.1 true p.2 ∧ toL p.1 p.2 = L ∧ Up L ∧ 2 ≤ o ∧ o ≤ 64) ∧ Has (trB g o (LT.nd p.1 p.2).p L.length :: treeA p.1 p.2 :: m) k := by
  obtain ⟨p, H1⟩ := Has.open_ex H
  have H2 := Has.open_sepL H1
  exact ⟨p, Has.open_pu H2⟩
theorem Has.bt_in {g o : Nat} {L : List KV} {m : List Assn} {k : Piece} {H : Nat} {t : LT H} (h1 : okT o H true t) (h2 : toL H t = L) (h3 : Up L) (h4 : 2 ≤ o) (h5 : o ≤ 64) (K : Has (trB g o (LT.nd H t).p L.length :: treeA H t :: m) k) : Has (btA g o L :: m) k := by
  refine Has.close_ex (⟨H, t⟩ : (H : Nat) × LT H) (Has.close_sepL ?_)
  exact Has.close_pu ⟨h1, h2, h3, h4, h5⟩ K
theorem Fn.bt {P : Program} {B : Base} {f : FuncId} {args : Array Value} {g o : Nat} {L : List KV} {S : List Assn} {R : Value → List Assn → Prop} (h : ∀ (H : Nat) (t : LT H), okT o H true t → toL H t = L → Up L → 2 ≤ o → o ≤ 64 → Fn P B f args (trB g o (LT.nd H t).p L.length :: treeA H t :: S) R) : Fn P B f args (btA g o L :: S) R := by
  refine Fn.exPre (pre' := fun (p : {p : (H : Nat) × LT H // okT o p.1 true p.2 ∧ toL p.1 p.2 = L ∧ Up L ∧ 2 ≤ o ∧ o ≤ 64}) => trB g o (LT.nd p.1.1 p.1.2).p L.length :: treeA p.1.1 p.1.2 :: S) (fun q K => ?_) fun p => h _ _ p.2.1 p.2.2.1 p.2.2.2.1 p.2.2.2.2.1 p.2.2.2.2.2
  obtain ⟨p, hp, K2⟩ := Has.bt_out K
  exact ⟨⟨p, hp⟩, K2⟩
def nd0 (p : Nat) : Nd := ⟨p, [], none, 0, none, 0, none, 0⟩
theorem Has.leaf0 {p : Nat} {m : List Assn} {k : Piece} (K : Has (blk p [.slice none 0 0, .slice none 0 0, .slice none 0 0] 98 :: m) k) : Has (treeA 0 (LT.mk 0 (nd0 p) []) :: m) k := by
  refine Has.closeM (h := 0) (ks := []) ?_
  refine Has.cons_imp (fun _ K => ?_) K
  have e : Has (sepL (([] : List (LK 0)).map (LK.a 0)) :: m) _ := Has.close_pu (p := True) trivial K
  exact Has.rowNil (Has.rowNil (Has.rowNil e))
theorem Bt.newOk (B : Base) (o : Nat) (h1 : 2 ≤ o) (h2 : o ≤ 64) : Fn Try.prog B 14 #[.int .i64 o] [] (fun u l => ∃ g, u = .tuple #[pV g, .int .i64 0] ∧ l = [btA g o []]) := by
  refine Fn.enter1 16 Try.func14 rfl rfl (Nat.le_of_ble_eq_true rfl) (fun F => ?_)
  try simp only [List.cons_append, List.nil_append]
  refine T.seq ?_
  refine T.region ?_
  refine LW.q rfl (Qt.assign rfl) ?_
  refine LW.q rfl (Qt.assign rfl) ?_
  refine LW.done ?_
  refine T.seq ?_
  refine T.seq ?_
  refine T.region ?_
  refine LW.q rfl (Qt.move rfl) ?_
  refine LW.q rfl (Qt.lss rfl rfl) ?_
  refine LW.q rfl (Qt.move rfl) ?_
  first | refine LW.gF (t := 6) rfl rfl ?_ | refine LW.gF (t := 6) rfl (decide_eq_false (by omega)) ?_ | refine LW.gF (t := 6) rfl (by omega) ?_
  refine LW.q rfl (Qt.move rfl) ?_
  refine LW.q rfl (Qt.gtr rfl rfl) ?_
  refine LW.q rfl (Qt.pick rfl rfl) ?_
  refine LW.done ?_
  first | refine T.condF rfl ?_ | refine T.condPF rfl (by omega) ?_ | refine T.condBF rfl (by omega) ?_
  refine T.skip ?_
  refine T.seq ?_
  refine T.region ?_
  refine LW.q rfl (Qt.move rfl) ?_
  refine LW.q rfl (Qt.build [(0, 1)] [.int .i64 0] [_] [(0, _)] (by kernel_rfl) (by unfold zeroB; kernel_rfl) rfl rfl) ?_
  refine LW.q rfl (Qt.build [(0, 1), (1, 1), (2, 1)] [.slice none 0 0, .slice none 0 0, .slice none 0 0] [_, _, _] [] (by kernel_rfl) (by unfold zeroB; kernel_rfl) rfl rfl) ?_
  refine LW.e rfl (Ef.box [_, _, _] rfl rfl ?_)
  intro g13
  refine LW.q rfl (Qt.build [(0, 1), (1, 1), (2, 1)] [.int .i64 0, .pointer none, .int .i64 0] [_, _, _] [(0, _), (1, _)] (by kernel_rfl) (by unfold zeroB; kernel_rfl) rfl rfl) ?_
  refine LW.e rfl (Ef.box [_, _, _] rfl rfl ?_)
  intro g15
  refine LW.q rfl (Qt.assign rfl) ?_
  refine LW.q rfl (Qt.assign rfl) ?_
  refine LW.done ?_
  refine T.ret ?_
  exact ⟨.inl rfl, _, _, res [_, _] rfl ⟨rvT rfl, rvT rfl, trivial⟩, ⟨_, rfl, rfl⟩, (fun k K => Has.bt_in (t := LT.mk 0 (nd0 g13) []) (show okT _ 0 true (nd0 g13) from ⟨by simp [nd0], fun e => by cases e⟩) rfl List.Pairwise.nil (by omega) (by omega) (Has.swap (show Has (treeA 0 (LT.mk 0 (nd0 g13) []) :: blk g15 [.int .i64 o, pV g13, .int .i64 0] 100 :: F) k from Has.leaf0 (Sub.any k K))))⟩
end Go.Proofs.Ytefognjcognknaa

/- btree: Put. Conditions: sizes. -/
set_option linter.unusedSimpArgs false
set_option linter.unusedVariables false
namespace Go.Proofs.Ytefognjcognknaa
open Go.RowKit
abbrev rm (H : Nat) : Nat := if H = 0 then 0 else 1
theorem set_mapB {α β : Type} (f : α → β) {l : List α} {i : Nat} {p p' : α} (hi : l[i]? = some p) (h : f p = f p') : (l.set i p').map f = l.map f := by
  obtain ⟨hl, rfl⟩ := List.getElem?_eq_some_iff.1 hi
  rw [List.map_set, ← h, ← List.getElem_map f (h := by simpa using hl), List.set_getElem_self]
theorem cut_at {α : Type} {l : List α} {i : Nat} {p : α} (hi : l[i]? = some p) : l = l.take i ++ p :: l.drop (i + 1) := by
  obtain ⟨hl, rfl⟩ := List.getElem?_eq_some_iff.1 hi
  rw [← List.drop_eq_getElem_cons, List.take_append_drop]
theorem set_at {α : Type} {l : List α} {i : Nat} {p p' : α} (hi : l[i]? = some p) : l.set i p' = l.take i ++ p' :: l.drop (i + 1) := by
  obtain ⟨hl, rfl⟩ := List.getElem?_eq_some_iff.1 hi
  rw [List.set_eq_take_append_cons_drop, if_pos hl]
/-- A node's pair changed. -/
theorem interK_set {h : Nat} {ks : List (LK h)} {kv : List KV} {i : Nat} {p p' : KV} (hi : kv[i]? = some p) (hk : h = 0 ∨ ks.length = kv.length + 1) : ∃ X Y, interK h ks kv = X ++ p :: Y ∧ interK h ks (kv.set i p') = X ++ p' :: Y ∧ (∀ y ∈ kv.take i, y ∈ X) := by
  have hl := (List.getElem?_eq_some_iff.1 hi).1
  cases h with
  | zero => exact ⟨kv.take i, kv.drop (i + 1), cut_at hi, set_at hi, fun y hy => hy⟩
  | succ h =>
    have hk := hk.resolve_left (by omega)
    refine ⟨inter ((ks.take (i + 1)).map (LK.l (h + 1))) (kv.take i), inter ((ks.drop (i + 1)).map (LK.l (h + 1))) (kv.drop (i + 1)), ?_, ?_, ?_⟩
    · rw [← inter_cut (by rw [List.length_map, List.length_take, List.length_take]; omega), ← List.map_append, List.take_append_drop, ← cut_at hi]; rfl
    · rw [← inter_cut (by rw [List.length_map, List.length_take, List.length_take]; omega), ← List.map_append, List.take_append_drop, ← set_at hi]; rfl
    · exact (inter_sub _ _ (by rw [List.length_map, List.length_take, List.length_take]; omega)).subset
theorem toL_mk {h : Nat} {x : Nd} {ks : List (LK h)} : toL h (LT.mk h x ks) = interK h ks x.kv := by rw [toL_eq, LT.nd_mk, LT.ksL_mk]
theorem okN_mk {o lo h : Nat} {x : Nd} {ks : List (LK h)} : okN o lo h (LT.mk h x ks) ↔ x.kv.length ≤ 2 * o - 1 ∧ lo ≤ x.kv.length ∧ (h = 0 ∨ ks.length = x.kv.length + 1) ∧ ∀ k ∈ ks, LK.ok o h k := by rw [okN, LT.nd_mk, LT.ksL_mk]
theorem put_plug {H o m h : Nat} {c : Cx H h} {t t' : LT h} {L : List KV} {key : Str} {val : Int} (hc : c.ok o m) (hL : toL H (c.plug t) = L) (hl : ∀ y ∈ c.lf, sl y.1 key = true) (hr : ∀ y ∈ c.rg, sl key y.1 = true) (ht : toL h t' = putL key val (toL h t)) : toL H (c.plug t') = putL key val L := by
  rw [Cx.toL_plug hc] at hL ⊢
  rw [← hL, List.append_assoc, List.append_assoc, putL_left hl, putL_right hr, ht]
theorem Cx.plug_p {H : Nat} : ∀ {h : Nat} {c : Cx H h} {t t' : LT h}, (LT.nd h t).p = (LT.nd h t').p → (LT.nd H (c.plug t)).p = (LT.nd H (c.plug t')).p
  | _, .top, _, _, e => e
  | _, .down (h := h) c x L1 L2, t, t', _ => Cx.plug_p (c := c) (t := (show LT (h + 1) from (x, L1 ++ t :: L2))) (t' := (show LT (h + 1) from (x, L1 ++ t' :: L2))) rfl
theorem up_plug {H o m h : Nat} {c : Cx H h} {t : LT h} (hc : c.ok o m) (hu : Up (toL H (c.plug t))) : Up (toL h t) := by
  rw [Cx.toL_plug hc] at hu
  exact (List.pairwise_append.1 (List.pairwise_append.1 hu).1).2.1
theorem up_kv {h : Nat} {x : Nd} {ks : List (LK h)} (hk : h = 0 ∨ ks.length = x.kv.length + 1) (hu : Up (toL h (LT.mk h x ks))) : Up x.kv := by
  rw [toL_mk] at hu
  cases h with
  | zero => exact hu
  | succ h => exact hu.sublist (inter_sub (ks.map (LK.l (h + 1))) x.kv (by rw [List.length_map]; have := hk.resolve_left (by omega); omega))
theorem toL_set {h : Nat} {x x' : Nd} {ks : List (LK h)} {i : Nat} {p : KV} {val : Int} (hi : x.kv[i]? = some p) (hx : x'.kv = x.kv.set i (p.1, val)) (hk : h = 0 ∨ ks.length = x.kv.length + 1) (hu : Up (toL h (LT.mk h x ks))) : toL h (LT.mk h x' ks) = putL p.1 val (toL h (LT.mk h x ks)) := by
  rw [toL_mk] at hu
  rw [toL_mk, toL_mk, hx]
  obtain ⟨X, Y, e1, e2, _⟩ := interK_set (ks := ks) (p' := (p.1, val)) hi hk
  rw [e1] at hu ⊢
  rw [e2, putL_at hu]
theorem toL_ins {x x' : Nd} {ks : List (LK 0)} {key : Str} {val : Int} (hu : Up x.kv) (hn : x.ks[spot x.ks key]? ≠ some key) (hx : x'.kv = insL x.kv (spot x.ks key) (key, val)) : toL 0 (LT.mk 0 x' ks) = putL key val (toL 0 (LT.mk 0 x ks)) := by
  show x'.kv = putL key val x.kv
  rw [hx]
  conv => rhs; rw [← List.take_append_drop (spot x.ks key) x.kv]
  rw [putL_no spot_take (spot_drop' hu hn)]
/-- The kid for a key, with what lies left and right of it. -/
theorem kid_spot {h : Nat} {x : Nd} {ks : List (LT h)} (key : Str) (hu : Up (inter (ks.map (toL h)) x.kv)) (hl : ks.length = x.kv.length + 1) (hn : x.ks[spot x.ks key]? ≠ some key) : ∃ L1 k L2, ks = L1 ++ k :: L2 ∧ L1.length = spot x.ks key ∧ L1.length + L2.length = x.kv.length ∧
    (∀ y ∈ lefts (L1.map (toL h)) (x.kv.take L1.length), sl y.1 key = true) ∧ (∀ y ∈ rights (x.kv.drop L1.length) (L2.map (toL h)), sl key y.1 = true) := by
  have hi : spot x.ks key ≤ x.kv.length := by have := spot_le x.ks key; simpa using this
  obtain ⟨L1, k, L2, e1, e2, e3, e4⟩ := kid_at hl hi
  have hkv : Up x.kv := hu.sublist (inter_sub _ _ (by simp; omega))
  rw [e4] at hu
  have h1 := List.pairwise_append.1 hu
  have h2 := List.pairwise_append.1 h1.2.1
  refine ⟨L1, k, L2, e1, e2, by omega, ?_, ?_⟩
  · rw [e2]; exact lefts_lt h1.1 spot_take
  · rw [e2]; exact rights_gt h2.2.1 (spot_drop' hkv hn)
theorem spot_ins {x x' : Nd} {i : Nat} {m : KV} {key : Str} (hu : Up x.kv) (hi : i = spot x.ks key) (hx : x'.kv = x.kv.take i ++ m :: x.kv.drop i) : spot x'.ks key = i ∨ spot x'.ks key = i + 1 := by
  have hil : i ≤ x.kv.length := by have := spot_le x.ks key; rw [← hi] at this; simpa using this
  have hg : ∀ k s, k < i → x'.ks[k]? = some s → sl s key = true := fun k s hk hs => by
    rw [keyAt, hx, List.getElem?_append_left (by simp; omega)] at hs
    obtain ⟨y, hy, rfl⟩ := Option.map_eq_some_iff.1 hs
    exact spot_take (x := x) y (by rw [← hi]; exact List.mem_of_getElem? hy)
  have hm : x'.ks[i]? = some m.1 := by rw [keyAt, hx, List.getElem?_append_right (by simp; omega)]; simp [Nat.min_eq_left hil]
  have hlen : x'.ks.length = x.kv.length + 1 := by simp [hx]; omega
  cases hs : sl m.1 key with
  | false => exact .inl (spot_eq (by omega) hg fun s e => by rw [hm] at e; injection e with e; rw [← e]; exact hs)
  | true =>
    refine .inr (spot_eq (by omega) (fun k s hk e => ?_) fun s e => ?_)
    · rcases Nat.lt_or_ge k i with h | h
      · exact hg k s h e
      · have : k = i := by omega
        subst this; rw [hm] at e; injection e with e; rw [← e]; exact hs
    · rw [keyAt, hx, List.getElem?_append_right (by simp; omega)] at e
      obtain ⟨y, hy, rfl⟩ := Option.map_eq_some_iff.1 e
      refine spot_drop (x := x) (key := key) hu y ?_
      rw [← hi]
      have : i + 1 - (x.kv.take i).length = 1 := by simp; omega
      rw [this] at hy
      exact List.mem_of_getElem? (i := 0) (by simpa using hy)
theorem Has.vaCast {x : Nd} {m : Nat} {v : Option Addr} {l : List Assn} {k : Piece} (e : x.va = v) (K : Has (ndB x m :: ndK x :: ndV x :: l) k) : Has (blk x.p [.slice x.ka x.kv.length x.kc, .slice v x.kv.length x.vc, .slice x.ca m x.cc] 98 :: ndK x :: row (.slice v x.kv.length x.vc) 2 1 x.kv.length (x.vs.map iV) :: l) k := by subst e; exact K
abbrev openA (h : Nat) (x : Nd) (ks : List (LK h)) : List Assn := [ndB x (ks.map fun q => (LK.nd h q).p).length, ndK x, ndV x, ndC x (ks.map fun q => (LK.nd h q).p), sepL (ks.map (LK.a h))]
theorem Has.closeP {H h : Nat} {c : Cx H h} {x : Nd} {ks : List (LK h)} {m : List Assn} {k : Piece} (K : Has (nodeL x (ks.map fun q => (LK.nd h q).p) ++ sepL (ks.map (LK.a h)) :: cxA c x.p :: m) k) : Has (treeA H (c.plug (LT.mk h x ks)) :: m) k := by
  refine Has.plug ?_
  rw [LT.nd_mk]
  exact Has.closeM K
theorem Has.downP {H h : Nat} {c : Cx H (h + 1)} {x : Nd} {L1 L2 : List (LT h)} {q : LT h} {m : List Assn} {k : Piece} (K : Has (nodeL x ((L1 ++ q :: L2).map fun q => (LT.nd h q).p) ++ nodeL (LT.nd h q) ((LT.ksL h q).map fun q => (LK.nd h q).p) ++ sepL ((LT.ksL h q).map (LK.a h)) :: sepL (L1.map (treeA h)) :: sepL (L2.map (treeA h)) :: cxA c x.p :: m) k) : Has (nodeL (LT.nd h q) ((LT.ksL h q).map fun q => (LK.nd h q).p) ++ sepL ((LT.ksL h q).map (LK.a h)) :: cxA (.down c x L1 L2) (LT.nd h q).p :: m) k := by
  have e : (L1 ++ q :: L2).map (fun k => (LT.nd h k).p) = L1.map (fun k => (LT.nd h k).p) ++ (LT.nd h q).p :: L2.map (fun k => (LT.nd h k).p) := by simp
  rw [e] at K
  have K1 : Has ((nodeL x (L1.map (fun k => (LT.nd h k).p) ++ (LT.nd h q).p :: L2.map (fun k => (LT.nd h k).p)) ++ [sepL (L1.map (treeA h)), sepL (L2.map (treeA h)), cxA c x.p]) ++ (nodeL (LT.nd h q) ((LT.ksL h q).map fun q => (LK.nd h q).p) ++ sepL ((LT.ksL h q).map (LK.a h)) :: m)) k := by
    simp only [nodeL, List.cons_append, List.nil_append] at K ⊢
    exact Sub.any k K
  have K2 : Has (cxA (.down c x L1 L2) (LT.nd h q).p :: (nodeL (LT.nd h q) ((LT.ksL h q).map fun q => (LK.nd h q).p) ++ sepL ((LT.ksL h q).map (LK.a h)) :: m)) k := Has.close_sepL K1
  simp only [nodeL, List.cons_append, List.nil_append] at K2 ⊢
  exact Sub.any k K2
/-- A kid opened among the others. -/
theorem Has.kidM {h : Nat} {L1 L2 : List (LT h)} {q : LT h} {m : List Assn} {k : Piece} (K : Has (sepL ((L1 ++ q :: L2).map (treeA h)) :: m) k) : Has (nodeL (LT.nd h q) ((LT.ksL h q).map fun q => (LK.nd h q).p) ++ sepL ((LT.ksL h q).map (LK.a h)) :: sepL (L1.map (treeA h)) :: sepL (L2.map (treeA h)) :: m) k := by
  have K1 := Has.kid_out K
  rw [← LT.eta h q] at K1
  exact Has.openM K1
theorem Has.kidC {h : Nat} {L1 L2 : List (LT h)} {q : LT h} {m : List Assn} {k : Piece} (K : Has (nodeL (LT.nd h q) ((LT.ksL h q).map fun q => (LK.nd h q).p) ++ sepL ((LT.ksL h q).map (LK.a h)) :: sepL (L1.map (treeA h)) :: sepL (L2.map (treeA h)) :: m) k) : Has (sepL ((L1 ++ q :: L2).map (treeA h)) :: m) k := by
  refine Has.kid_in ?_
  have K2 := Has.closeM K
  rw [LT.eta] at K2
  exact K2
end Go.Proofs.Ytefognjcognknaa

/- btree: Put. Conditions: sizes. -/
set_option linter.unusedSimpArgs false
set_option linter.unusedVariables false
namespace Go.Proofs.Ytefognjcognknaa
open Go.RowKit
theorem one_iV {vs : List Int} : ∀ v ∈ vs.map iV, v.oneCell' = true := by intro v hv; obtain ⟨_, _, rfl⟩ := List.mem_map.1 hv; rfl
theorem one_pV {vs : List Nat} : ∀ v ∈ vs.map pV, v.oneCell' = true := by intro v hv; obtain ⟨_, _, rfl⟩ := List.mem_map.1 hv; rfl
theorem okN_rm {o H : Nat} {t : LT H} : okN o (rm H) H t ↔ okT o H true t := okN_true.symm
/-- The end of Put. -/
theorem put_end {F : List Assn} {g o H' h rp : Nat} {c : Cx H' h} {x x' : Nd} {ks : List (LK h)} {L : List KV} {key : Str} {val : Int} {k : Piece} (ho : 2 ≤ o) (ho2 : o ≤ 64) (hp : x'.p = x.p) (hc : c.ok o (rm H')) (hk : okN o (c.lo o (rm H')) h (LT.mk h x' ks)) (hl : ∀ y ∈ c.lf, sl y.1 key = true) (hr : ∀ y ∈ c.rg, sl key y.1 = true) (hL : toL H' (c.plug (LT.mk h x ks)) = L) (hu : Up L) (hrp : (LT.nd H' (c.plug (LT.mk h x ks))).p = rp) (ht : toL h (LT.mk h x' ks) = putL key val (toL h (LT.mk h x ks)))
    (K : Has (nodeL x' (ks.map fun q => (LK.nd h q).p) ++ sepL (ks.map (LK.a h)) :: cxA c x.p :: trB g o rp (putL key val L).length :: F) k) : Has (btA g o (putL key val L) :: F) k := by
  rw [← hp] at K
  have hrp' : (LT.nd H' (c.plug (LT.mk h x' ks))).p = rp := by rw [← hrp]; exact Cx.plug_p (by rw [LT.nd_mk, LT.nd_mk, hp])
  refine Has.bt_in (t := c.plug (LT.mk h x' ks)) (okN_rm.1 (Cx.ok_plug hc hk)) (put_plug hc hL hl hr ht) (putL_up hu) ho ho2 ?_
  rw [hrp']
  exact Has.swap (Has.closeP K)
theorem put_some {o H' h i : Nat} {c : Cx H' h} {x : Nd} {ks : List (LK h)} {L : List KV} {key : Str} {p : KV} {m : Nat} (hc : c.ok o m) (hk : h = 0 ∨ ks.length = x.kv.length + 1) (hL : toL H' (c.plug (LT.mk h x ks)) = L) (hi : x.kv[i]? = some p) (hp : p.1 = key) : (getL L key).isSome = true := by
  have hm : p ∈ toL h (LT.mk h x ks) := by
    rw [toL_mk]
    obtain ⟨X, Y, e1, _⟩ := interK_set (ks := ks) (p' := p) hi hk
    rw [e1]; simp
  refine getL_isSome.2 ⟨p.2, ?_⟩
  rw [← hL, Cx.toL_plug hc, ← hp]
  exact List.mem_append_left _ (List.mem_append_right _ hm)
theorem put_none {o H' m : Nat} {c : Cx H' 0} {x : Nd} {ks : List (LK 0)} {L : List KV} {key : Str} (hc : c.ok o m) (hl : ∀ y ∈ c.lf, sl y.1 key = true) (hr : ∀ y ∈ c.rg, sl key y.1 = true) (hL : toL H' (c.plug (LT.mk 0 x ks)) = L) (hu : Up L) (hn : x.ks[spot x.ks key]? ≠ some key) : (getL L key).isSome = false := by
  have hut : Up x.kv := up_plug (t := LT.mk 0 x ks) hc (by rw [hL]; exact hu)
  rw [← hL, Cx.toL_plug hc, List.append_assoc, getL_append (fun y hy => ne_of_sl (hl y hy)), getL_left (fun y hy => (ne_of_sl (hr y hy)).symm)]
  have := get_leaf hut hn
  show (getL x.kv key).isSome = false
  rw [this]; rfl
theorem put_there {F : List Assn} {g o H' h rp i b0 : Nat} {c : Cx H' h} {x : Nd} {ks : List (LK h)} {L : List KV} {key : Str} {val : Int} {p : KV} {k : Piece} (ho : 2 ≤ o) (ho2 : o ≤ 64) (hc : c.ok o (rm H')) (hk : okN o (c.lo o (rm H')) h (LT.mk h x ks)) (hl : ∀ y ∈ c.lf, sl y.1 key = true) (hr : ∀ y ∈ c.rg, sl key y.1 = true) (hL : toL H' (c.plug (LT.mk h x ks)) = L) (hu : Up L) (hrp : (LT.nd H' (c.plug (LT.mk h x ks))).p = rp) (hi : x.kv[i]? = some p) (hp : p.1 = key)
    (K : Has (blk x.p [.slice x.ka x.kv.length x.kc, .slice (some ⟨b0, 0, none⟩) x.kv.length x.vc, .slice x.ca (ks.map fun q => (LK.nd h q).p).length x.cc] 98 :: ndK x :: row (.slice (some ⟨b0, 0, none⟩) x.kv.length x.vc) 2 1 x.kv.length ((x.vs.map iV).set (0 + i * 1) (iV val)) :: ndC x (ks.map fun q => (LK.nd h q).p) :: sepL (ks.map (LK.a h)) :: cxA c x.p :: trB g o rp L.length :: F) k) : Has (btA g o (putL key val L) :: F) k := by
  have hk' := okN_mk.1 hk
  simp only [Nat.zero_add, Nat.mul_one] at K
  have hs := put_some (i := i) hc hk'.2.2.1 hL hi hp
  subst hp
  have hut := up_plug hc (by rw [hL]; exact hu)
  have hx : (⟨x.p, x.kv.set i (p.1, val), x.ka, x.kc, some ⟨b0, 0, none⟩, x.vc, x.ca, x.cc⟩ : Nd).kv = x.kv.set i (p.1, val) := rfl
  refine put_end (x := x) (x' := ⟨x.p, x.kv.set i (p.1, val), x.ka, x.kc, some ⟨b0, 0, none⟩, x.vc, x.ca, x.cc⟩) ho ho2 rfl hc (okN_mk.2 (by simpa using hk')) hl hr hL hu hrp (toL_set hi hx hk'.2.2.1 hut) ?_
  refine Has.nodeC (m1 := x.kv.length) (m3 := (ks.map fun q => (LK.nd h q).p).length) (by simp) rfl (xs1 := x.ks.map kT) ?_ (xs2 := (x.vs.map iV).set i (iV val)) ?_ rfl ?_
  · show _ = ((x.kv.set i (p.1, val)).map (·.1)).map kT
    rw [set_mapB (p' := (p.1, val)) (fun q : KV => q.1) hi rfl]
  · show _ = ((x.kv.set i (p.1, val)).map (·.2)).map iV
    rw [List.map_set, List.map_set]
  · have e : (putL p.1 val L).length = L.length := by rw [putL_len hu, if_pos hs]; rfl
    rw [e]
    exact K
theorem put_leaf {F : List Assn} {g o H' rp : Nat} {c : Cx H' 0} {x : Nd} {ks : List (LK 0)} {L : List KV} {key : Str} {val : Int} {k : Piece} {a5 a6 : Option Addr} {c5 c6 : Nat} (ho : 2 ≤ o) (ho2 : o ≤ 64) (hc : c.ok o (rm H')) (hk : okN o (c.lo o (rm H')) 0 (LT.mk 0 x ks)) (hlen : x.kv.length ≤ 2 * o - 2) (hl : ∀ y ∈ c.lf, sl y.1 key = true) (hr : ∀ y ∈ c.rg, sl key y.1 = true) (hL : toL H' (c.plug (LT.mk 0 x ks)) = L) (hu : Up L) (hrp : (LT.nd H' (c.plug (LT.mk 0 x ks))).p = rp) (hn : x.ks[spot x.ks key]? ≠ some key)
    (K : Has (blk x.p [.slice a5 (x.kv.length + 1) c5, .slice a6 (x.kv.length + 1) c6, .slice x.ca (ks.map fun q => (LK.nd 0 q).p).length x.cc] 98 :: row (.slice a5 (x.kv.length + 1) c5) 9 1 (x.kv.length + 1) (insL (x.ks.map kT) (spot x.ks key) (kT key)) :: row (.slice a6 (x.kv.length + 1) c6) 2 1 (x.kv.length + 1) (insL (x.vs.map iV) (spot x.ks key) (iV val)) :: ndC x (ks.map fun q => (LK.nd 0 q).p) :: sepL (ks.map (LK.a 0)) :: cxA c x.p :: trB g o rp (L.length + 1) :: F) k) : Has (btA g o (putL key val L) :: F) k := by
  have hk' := okN_mk.1 hk
  have hut : Up x.kv := up_plug (t := LT.mk 0 x ks) hc (by rw [hL]; exact hu)
  have hs := put_none hc hl hr hL hu hn
  have hil : spot x.ks key ≤ x.kv.length := by have := spot_le x.ks key; simpa using this
  refine put_end (x := x) (x' := ⟨x.p, insL x.kv (spot x.ks key) (key, val), a5, c5, a6, c6, x.ca, x.cc⟩) ho ho2 rfl hc (okN_mk.2 ?_) hl hr hL hu hrp (toL_ins hut hn rfl) ?_
  · rw [insL_len hil]; exact ⟨by omega, by omega, .inl rfl, hk'.2.2.2⟩
  · refine Has.nodeC (m1 := x.kv.length + 1) (m3 := (ks.map fun q => (LK.nd 0 q).p).length) (by rw [insL_len hil]) rfl (xs1 := insL (x.ks.map kT) (spot x.ks key) (kT key)) (by show _ = ((insL x.kv (spot x.ks key) (key, val)).map (·.1)).map kT; rw [insL_map, insL_map]) (xs2 := insL (x.vs.map iV) (spot x.ks key) (iV val)) (by show _ = ((insL x.kv (spot x.ks key) (key, val)).map (·.2)).map iV; rw [insL_map, insL_map]) rfl ?_
    have e : (putL key val L).length = L.length + 1 := by rw [putL_len hu, hs]; rfl
    rw [e]
    exact K
theorem Has.oneRow {g : Nat} {v : Value} {e : TypeId} {m : List Assn} {k : Piece} (K : Has (blk g [v] e :: m) k) : Has (row (.slice (some ⟨g, 0, none⟩) 1 1) e 1 1 [v] :: m) k := Has.closeRow (by simp) (Nat.le_refl _) (by decide) rfl K
theorem put_root {H g31 g29 : Nat} {x : Nd} {ks : List (LK H)} {A : Assn} {F : List Assn} {k : Piece} (K : Has (ndB x (ks.map fun q => (LK.nd H q).p).length :: ndK x :: ndV x :: ndC x (ks.map fun q => (LK.nd H q).p) :: sepL (ks.map (LK.a H)) :: blk g29 [pV x.p] 95 :: blk g31 [.slice none 0 0, .slice none 0 0, .slice (some ⟨g29, 0, none⟩) 1 1] 98 :: A :: F) k) : Has (A :: treeA (H + 1) (LT.mk (H + 1) ⟨g31, [], none, 0, none, 0, some ⟨g29, 0, none⟩, 1⟩ ([] ++ LT.mk H x ks :: [])) :: F) k := by
  refine Has.swap ?_
  refine Has.closeM (h := H + 1) ?_
  have K2 := Has.closeM (h := H) (x := x) (ks := ks) K
  have K3 := Has.cons_imp (fun _ K => Has.oneRow K) K2
  have K4 : Has (sepL [treeA H (LT.mk H x ks)] :: row (.slice (some ⟨g29, 0, none⟩) 1 1) 95 1 1 [pV x.p] :: blk g31 [.slice none 0 0, .slice none 0 0, .slice (some ⟨g29, 0, none⟩) 1 1] 98 :: A :: F) k := Has.close_sepL (l := [treeA H (LT.mk H x ks)]) K3
  have K5 := Has.rowNil (e := 9) (sz := 1) (Has.rowNil (e := 2) (sz := 1) K4)
  show Has (nodeL ⟨g31, [], none, 0, none, 0, some ⟨g29, 0, none⟩, 1⟩ [(LT.nd H (LT.mk H x ks)).p] ++ sepL [treeA H (LT.mk H x ks)] :: A :: F) k
  rw [LT.nd_mk]
  show Has (blk g31 [.slice none 0 0, .slice none 0 0, .slice (some ⟨g29, 0, none⟩) 1 1] 98 :: row (.slice none 0 0) 9 1 0 [] :: row (.slice none 0 0) 2 1 0 [] :: row (.slice (some ⟨g29, 0, none⟩) 1 1) 95 1 1 [pV x.p] :: sepL [treeA H (LT.mk H x ks)] :: A :: F) k
  exact Sub.any k K5
theorem put_top {H : Nat} {x : Nd} {ks : List (LK H)} {m : List Assn} {k : Piece} (K : Has (openA H x ks ++ m) k) : Has (openA H x ks ++ cxA (Cx.top : Cx H H) x.p :: m) k := Has.under (m := openA H x ks) (Has.close_pu (p := True) trivial K)
theorem put_kid {h : Nat} {y : Nd} {L1 L2 : List (LT h)} {q : LT h} {m : List Assn} {k : Piece} (K : Has (openA (h + 1) y (L1 ++ q :: L2) ++ m) k) : Has (nodeL y ((L1 ++ q :: L2).map fun q => (LT.nd h q).p) ++ nodeL (LT.nd h q) ((LT.ksL h q).map fun q => (LK.nd h q).p) ++ sepL ((LT.ksL h q).map (LK.a h)) :: sepL (L1.map (treeA h)) :: sepL (L2.map (treeA h)) :: m) k := by
  have K1 : Has (nodeL y ((L1 ++ q :: L2).map fun q => (LT.nd h q).p) ++ (sepL ((L1 ++ q :: L2).map (treeA h)) :: m)) k := K
  have K2 := Has.cons_imp (fun _ K => Has.cons_imp (fun _ K => Has.cons_imp (fun _ K => Has.cons_imp (fun _ K => Has.kidM K) K) K) K) K1
  exact K2
theorem at_mid {α : Type} {a b : List α} {x : α} : (a ++ x :: b)[a.length]? = some x := by simp
theorem put_fold {h : Nat} {y : Nd} {L1 L2 : List (LT h)} {q : LT h} {A : Assn} {m : List Assn} {k : Piece} (K : Has (ndB (LT.nd h q) ((LT.ksL h q).map fun q => (LK.nd h q).p).length :: ndK (LT.nd h q) :: ndV (LT.nd h q) :: ndC (LT.nd h q) ((LT.ksL h q).map fun q => (LK.nd h q).p) :: sepL ((LT.ksL h q).map (LK.a h)) :: sepL (L1.map (treeA h)) :: sepL (L2.map (treeA h)) :: ndB y ((L1 ++ q :: L2).map fun q => (LT.nd h q).p).length :: ndK y :: ndV y :: ndC y ((L1 ++ q :: L2).map fun q => (LT.nd h q).p) :: A :: m) k) : Has (A :: treeA (h + 1) (LT.mk (h + 1) y (L1 ++ q :: L2)) :: m) k := by
  refine Has.swap ?_
  refine Has.closeM (h := h + 1) ?_
  have K2 := Has.kidC (m := nodeL y ((L1 ++ q :: L2).map fun q => (LT.nd h q).p) ++ A :: m) K
  have K3 : Has (nodeL y ((L1 ++ q :: L2).map fun q => (LT.nd h q).p) ++ (sepL ((L1 ++ q :: L2).map (treeA h)) :: A :: m)) k := by
    simp only [nodeL, List.cons_append, List.nil_append] at K2 ⊢
    exact Sub.any k K2
  exact K3
theorem put_ok {o lo h : Nat} {x' y : Nd} {L1 L2 : List (LT h)} {q q1 q2 : LT h} (hk : okN o lo (h + 1) (LT.mk (h + 1) y (L1 ++ q :: L2))) (h1 : x'.kv.length = y.kv.length + 1) (h2 : y.kv.length ≤ 2 * o - 2) (hk1 : okT o h false q1) (hk2 : okT o h false q2) (ho : 2 ≤ o) : okN o lo (h + 1) (LT.mk (h + 1) x' (L1 ++ q1 :: q2 :: L2)) := by
  have a : y.kv.length ≤ 2 * o - 1 ∧ lo ≤ y.kv.length ∧ (h + 1 = 0 ∨ (L1 ++ q :: L2).length = y.kv.length + 1) ∧ ∀ k ∈ L1 ++ q :: L2, okT o h false k := okN_mk.1 hk
  have b := a.2.2.1.resolve_left (by omega)
  have hko := a.2.1
  refine ⟨show x'.kv.length ≤ 2 * o - 1 by omega, show lo ≤ x'.kv.length by omega, .inr (show (L1 ++ q1 :: q2 :: L2).length = x'.kv.length + 1 by simp at b ⊢; omega), fun k (hm : k ∈ L1 ++ q1 :: q2 :: L2) => show okT o h false k from ?_⟩
  rcases List.mem_append.1 hm with hm | hm
  · exact a.2.2.2 k (List.mem_append_left _ hm)
  · rcases List.mem_cons.1 hm with rfl | hm
    · exact hk1
    · rcases List.mem_cons.1 hm with rfl | hm
      · exact hk2
      · exact a.2.2.2 k (List.mem_append_right _ (List.mem_cons_of_mem _ hm))
theorem put_kids {o h : Nat} {y x' : Nd} {L1 L2 : List (LT h)} {q1 q2 : LT h} {m : KV} {key : Str} (hu : Up y.kv) (hi : spot y.ks key = L1.length) (hm : x'.kv = y.kv.take (spot y.ks key) ++ m :: y.kv.drop (spot y.ks key)) (h1 : (LT.nd h q1).kv.length = o - 1) (h2 : (LT.nd h q2).kv.length = o - 1) (ho : 2 ≤ o) {k : LK (h + 1)} (hk : (L1 ++ q1 :: q2 :: L2)[spot x'.ks key]? = some k) : (LK.nd (h + 1) k).kv.length ≠ 2 * o - 1 := by
  rcases spot_ins (i := spot y.ks key) hu rfl hm with e | e
  · rw [e, hi, List.getElem?_append_right (Nat.le_refl _), Nat.sub_self] at hk
    injection hk with hk
    subst hk
    show (LT.nd h q1).kv.length ≠ _
    omega
  · rw [e, hi, List.getElem?_append_right (by omega), Nat.add_sub_cancel_left] at hk
    injection hk with hk
    subst hk
    show (LT.nd h q2).kv.length ≠ _
    omega
set_option maxHeartbeats 4000000 in
set_option maxRecDepth 100000 in
theorem Bt.put (B : Base) (g o : Nat) (L : List KV) (key : Str) (val : Int) (hb : L.length < 2 ^ 39) : Fn Try.prog B 15 #[pV g, kT key, iV val] [btA g o L] (fun u l => u = .bool (getL L key).isSome ∧ l = [btA g o (putL key val L)]) := by
 refine Fn.bt fun H t hok hL hu ho ho2 => ?_
 obtain ⟨x, ks, rfl⟩ : ∃ x ks, t = LT.mk H x ks := ⟨_, _, (LT.eta H t).symm⟩
 have hL0 := hL
 simp only [LT.nd_mk]
 have hokN := okN_rm.2 hok
 have hk0 := okN_mk.1 hokN
 refine Fn.enter3 120 Try.func15 rfl rfl (Nat.le_of_ble_eq_true rfl) (fun F => ?_)
 try simp only [List.cons_append, List.nil_append]
 refine T.seq ?_
 refine T.region ?_
 refine LW.q rfl (Qt.assign rfl) ?_
 refine LW.done ?_
 refine T.cut (fun fz lz => ∃ (f0 : Fr) (H : Nat) (x : Nd) (ks : List (LK H)), (okN o (rm H) H (LT.mk H x ks) ∧ x.kv.length ≤ 2 * o - 2 ∧ toL H (LT.mk H x ks) = L) ∧ fz = (upd (upd (upd f0 0 (pV g)) 1 (kT key)) 2 (iV val)) ∧ lz = openA H x ks ++ trB g o x.p L.length :: F) ?_ ?_
 ·
  refine T.conv (l' := openA H x ks ++ trB g o x.p L.length :: F) (fun w ho => ho.map fun k K => by have K2 := Has.openM (m := trB g o x.p L.length :: F) (Has.swap K); exact K2) ?_
  simp only [openA, List.cons_append, List.nil_append]
  refine T.seq ?_
  refine T.drawAll 14 (by kernel_rfl) (Nat.le_of_ble_eq_true rfl) (by kernel_rfl) ?_
  refine RW.q 0 rfl rfl (by kernel_rfl) (Sub.refl _) (Qt.move rfl) ?_
  refine RW.q 1 rfl rfl (by kernel_rfl) (Sub.refl _) (Qt.nilCheck rfl) ?_
  refine RW.q 2 rfl rfl (by kernel_rfl) (Sub.refl _) (Qt.fieldAddr (off := 1) (by kernel_rfl) rfl) ?_
  first | refine RW.q 3 rfl rfl (by kernel_rfl) (Sub.refl _) (Qt.load (by kernel_rfl) rfl rfl) ?_ | refine RW.q 3 rfl rfl (by kernel_rfl) (Sub.refl _) (Qt.load (by kernel_rfl) rfl (map_at _ _ _ (by omega))) ?_ | refine RW.q 3 rfl rfl (by kernel_rfl) (Sub.refl _) (Qt.load (by kernel_rfl) rfl (flat_cell0 _ _ _ (by intros; rfl) _ (by omega) (by rfl))) ?_ | refine RW.q 3 rfl rfl (by kernel_rfl) (Sub.refl _) (Qt.load (by kernel_rfl) rfl (flat_cell _ _ _ (by intros; rfl) _ _ (by omega) (by rfl))) ?_ | refine RW.q 3 rfl rfl (by kernel_rfl) (Sub.refl _) (Qt.load (by kernel_rfl) rfl (bytes_at _ _ (by omega))) ?_
  refine RW.q 4 rfl rfl (by kernel_rfl) (Sub.refl _) (Qt.nilCheck rfl) ?_
  refine RW.q 5 rfl rfl (by kernel_rfl) (Sub.refl _) (Qt.fieldAddr0 (by kernel_rfl) rfl) ?_
  first | refine RW.q 6 rfl rfl (by kernel_rfl) (Sub.refl _) (Qt.load (by kernel_rfl) rfl rfl) ?_ | refine RW.q 6 rfl rfl (by kernel_rfl) (Sub.refl _) (Qt.load (by kernel_rfl) rfl (map_at _ _ _ (by omega))) ?_ | refine RW.q 6 rfl rfl (by kernel_rfl) (Sub.refl _) (Qt.load (by kernel_rfl) rfl (flat_cell0 _ _ _ (by intros; rfl) _ (by omega) (by rfl))) ?_ | refine RW.q 6 rfl rfl (by kernel_rfl) (Sub.refl _) (Qt.load (by kernel_rfl) rfl (flat_cell _ _ _ (by intros; rfl) _ _ (by omega) (by rfl))) ?_ | refine RW.q 6 rfl rfl (by kernel_rfl) (Sub.refl _) (Qt.load (by kernel_rfl) rfl (bytes_at _ _ (by omega))) ?_
  refine RW.q 7 rfl rfl (by kernel_rfl) (Sub.refl _) (Qt.len (e := 9) (sz := 1) (by kernel_rfl) rfl) ?_
  refine RW.q 8 rfl rfl (by kernel_rfl) (Sub.refl _) (Qt.move rfl) ?_
  refine RW.q 9 rfl rfl (by kernel_rfl) (Sub.refl _) (Qt.nilCheck rfl) ?_
  refine RW.q 10 rfl rfl (by kernel_rfl) (Sub.refl _) (Qt.fieldAddr0 (by kernel_rfl) rfl) ?_
  first | refine RW.q 11 rfl rfl (by kernel_rfl) (Sub.refl _) (Qt.loadAgg [_] (by kernel_rfl) rfl ⟨rfl, trivial⟩) ?_ | refine RW.q 11 rfl rfl (by kernel_rfl) (Sub.refl _) (Qt.loadAgg [_] (by kernel_rfl) rfl (by exact rdl_flat _ _ _ (by intros; rfl) _ (by omega))) ?_
  refine RW.one 12 (by kernel_rfl) ?_
  refine RO.e rfl rfl (Ef.call (Bt.most B o (by omega)) Try.func42 rfl rfl rfl ?_)
  rintro _ _ ⟨rfl, rfl⟩
  try simp only [List.cons_append, List.nil_append]
  refine ⟨Sub.any, ?_⟩
  refine RW.q 13 rfl rfl (by kernel_rfl) (Sub.refl _) (Qt.eql rfl rfl) ?_
  refine RW.done (by rfl) ?_
  simp only [List.drop_succ_cons, List.drop_zero, List.drop_nil]
  refine LW.done ?_
  refine T.condP rfl (fun hfull => ?_) (fun hfull => ?_)
  ·
   refine T.seq ?_
   refine T.region ?_
   refine LW.q rfl (Qt.move rfl) ?_
   refine LW.q rfl (Qt.move rfl) ?_
   refine LW.q rfl (Qt.nilCheck rfl) ?_
   refine LW.q rfl (Qt.fieldAddr (off := 1) (by kernel_rfl) rfl) ?_
   first | refine LW.q rfl (Qt.load (by kernel_rfl) rfl rfl) ?_ | refine LW.q rfl (Qt.load (by kernel_rfl) rfl (map_at _ _ _ (by omega))) ?_ | refine LW.q rfl (Qt.load (by kernel_rfl) rfl (flat_cell0 _ _ _ (by intros; rfl) _ (by omega) (by rfl))) ?_ | refine LW.q rfl (Qt.load (by kernel_rfl) rfl (flat_cell _ _ _ (by intros; rfl) _ _ (by omega) (by rfl))) ?_ | refine LW.q rfl (Qt.load (by kernel_rfl) rfl (bytes_at _ _ (by omega))) ?_
   refine LW.e rfl (Ef.one [_] (e := 95) (sz := 1) (by kernel_rfl) ⟨.pointer none, by kernel_rfl, rfl⟩ rfl rfl rfl (by omega) (by omega) ?_)
   intro g29
   refine LW.q rfl (Qt.build [(0, 1), (1, 1), (2, 1)] [.slice none 0 0, .slice none 0 0, .slice none 0 0] [_, _, _] [(2, _)] (by kernel_rfl) (by unfold zeroB; kernel_rfl) rfl rfl) ?_
   refine LW.e rfl (Ef.box [_, _, _] rfl rfl ?_)
   intro g31
   refine LW.q rfl (Qt.nilCheck rfl) ?_
   refine LW.q rfl (Qt.fieldAddr (off := 1) (by kernel_rfl) rfl) ?_
   refine LW.e0 rfl (Ef.store1 (by kernel_rfl) rfl rfl rfl (by first | (simp; done) | (simp; omega)) ?_)
   try simp only [List.set_cons_zero, List.set_cons_succ]
   refine LW.conv (l' := trB g o g31 L.length :: treeA (H + 1) (LT.mk (H + 1) ⟨g31, [], none, 0, none, 0, some ⟨g29, 0, none⟩, 1⟩ ([] ++ LT.mk H x ks :: [])) :: F) (fun w ho => ho.map fun k K => put_root (Sub.any k K)) ?_
   refine LW.done ?_
   refine T.region ?_
   refine LW.q rfl (Qt.move rfl) ?_
   refine LW.q rfl (Qt.move rfl) ?_
   refine LW.q rfl (Qt.nilCheck rfl) ?_
   refine LW.q rfl (Qt.fieldAddr (off := 1) (by kernel_rfl) rfl) ?_
   first | refine LW.q rfl (Qt.load (by kernel_rfl) rfl rfl) ?_ | refine LW.q rfl (Qt.load (by kernel_rfl) rfl (map_at _ _ _ (by omega))) ?_ | refine LW.q rfl (Qt.load (by kernel_rfl) rfl (flat_cell0 _ _ _ (by intros; rfl) _ (by omega) (by rfl))) ?_ | refine LW.q rfl (Qt.load (by kernel_rfl) rfl (flat_cell _ _ _ (by intros; rfl) _ _ (by omega) (by rfl))) ?_ | refine LW.q rfl (Qt.load (by kernel_rfl) rfl (bytes_at _ _ (by omega))) ?_
   refine LW.e rfl (Ef.call (Bt.splitT B g o g31 L.length H ⟨g31, [], none, 0, none, 0, some ⟨g29, 0, none⟩, 1⟩ [] [] (LT.mk H x ks) ho ho2 rfl (by simp) (by rw [LT.nd_mk]; omega) (okN_false.2 (okN_mk.2 ⟨hk0.1, by omega, hk0.2.2⟩))) Try.func43 rfl rfl rfl ?_)
   rintro _ _ ⟨x', q1, q2, hp', ⟨m, hm⟩, hL', hk1, hk2, hl1, hl2, rfl⟩
   try simp only [List.cons_append, List.nil_append]
   refine LW.conv (l' := openA (H + 1) x' ([] ++ q1 :: q2 :: []) ++ trB g o x'.p L.length :: F) (fun w ho => ho.map fun k K => by rw [hp']; exact Has.openM (m := trB g o g31 L.length :: F) (Has.swap K)) ?_
   simp only [openA, List.cons_append, List.nil_append]
   refine LW.done ?_
   exact ⟨_, ⟨_, H + 1, x', [] ++ q1 :: q2 :: [], ⟨okN_mk.2 ⟨by rw [hm]; simp; omega, by rw [hm]; simp [rm], .inr (by rw [hm]; rfl), fun k hk => by rcases List.mem_cons.1 hk with rfl | hk; exact hk1; rcases List.mem_cons.1 hk with rfl | hk; exact hk2; cases hk⟩, by rw [hm]; simp; omega, hL'.trans hL0⟩, (updS rfl (updS rfl (updS rfl rfl))), rfl⟩, Sub.any⟩
  ·
   refine T.skip ?_
   exact ⟨_, ⟨_, H, x, ks, ⟨hokN, by have := hk0.1; omega, hL0⟩, (updS rfl (updS rfl (updS rfl rfl))), rfl⟩, Sub.any⟩
 rintro fz lz ⟨f0, H, x, ks, ⟨hokN, hlen, hL⟩, rfl, rfl⟩
 try simp only [List.cons_append, List.nil_append]
 clear hk0 hL0 hok
 refine T.conv (l' := openA H x ks ++ cxA (Cx.top : Cx H H) x.p :: trB g o x.p L.length :: F) (fun w ho => ho.map fun k K => put_top K) ?_
 simp only [openA, List.cons_append, List.nil_append]
 refine T.seq ?_
 refine T.region ?_
 refine LW.q rfl (Qt.move rfl) ?_
 refine LW.q rfl (Qt.nilCheck rfl) ?_
 refine LW.q rfl (Qt.fieldAddr (off := 1) (by kernel_rfl) rfl) ?_
 first | refine LW.q rfl (Qt.load (by kernel_rfl) rfl rfl) ?_ | refine LW.q rfl (Qt.load (by kernel_rfl) rfl (map_at _ _ _ (by omega))) ?_ | refine LW.q rfl (Qt.load (by kernel_rfl) rfl (flat_cell0 _ _ _ (by intros; rfl) _ (by omega) (by rfl))) ?_ | refine LW.q rfl (Qt.load (by kernel_rfl) rfl (flat_cell _ _ _ (by intros; rfl) _ _ (by omega) (by rfl))) ?_ | refine LW.q rfl (Qt.load (by kernel_rfl) rfl (bytes_at _ _ (by omega))) ?_
 refine LW.q rfl (Qt.assign rfl) ?_
 refine LW.done ?_
 refine T.block ?_
 refine T.loop (fun mz fz lz => ∃ (f0 : Fr) (h : Nat) (y : Nd) (js : List (LK h)) (c : Cx H h) (kf : Nat), (c.ok o (rm H) ∧ okN o (c.lo o (rm H)) h (LT.mk h y js) ∧ (∀ z ∈ c.lf, sl z.1 key = true) ∧ (∀ z ∈ c.rg, sl key z.1 = true) ∧ toL H (c.plug (LT.mk h y js)) = L ∧ (LT.nd H (c.plug (LT.mk h y js))).p = x.p ∧ kf ≤ 1 ∧ (kf = 1 → y.kv.length ≤ 2 * o - 2) ∧ (h = 0 → y.kv.length ≤ 2 * o - 2) ∧ (kf = 0 → ∀ k, js[spot y.ks key]? = some k → (LK.nd h k).kv.length ≠ 2 * o - 1)) ∧ mz = 2 * h + kf ∧ fz = (upd (upd (upd (upd f0 0 (pV g)) 1 (kT key)) 2 (iV val)) 7 (pV y.p)) ∧ lz = openA h y js ++ cxA c y.p :: trB g o x.p L.length :: F) ?_ ?_
 · refine ⟨_, _, ⟨_, H, x, ks, .top, 1, ⟨trivial, hokN, (fun _ h => nomatch h), (fun _ h => nomatch h), hL, by rw [show (Cx.top : Cx H H).plug (LT.mk H x ks) = LT.mk H x ks from rfl, LT.nd_mk], Nat.le_refl _, fun _ => hlen, fun _ => hlen, (fun e => nomatch e)⟩, rfl, (updS rfl (updS rfl (updS rfl (updS rfl rfl)))), rfl⟩, Sub.any⟩
 ·
  rintro mz fz lz ⟨f0, h, y, js, c, kf, ⟨hc, hk, hlf, hrg, hpl, hpp, hkf, hf1, hf0, hfk⟩, hmz, rfl, rfl⟩
  subst mz
  try simp only [List.cons_append, List.nil_append]
  have hkm := okN_mk.1 hk
  have hut := up_plug hc (by rw [hpl]; exact hu)
  have hkv := up_kv hkm.2.2.1 hut
  refine T.own fun w0 ho0 => ?_
  have hpv := (ho0.slice_at (p := y.va) (m := y.kv.length) (c := y.vc) (k := y.kv.length)).2.1
  have hpc := (ho0.slice_at (p := y.ca) (m := (js.map fun q => (LK.nd h q).p).length) (c := y.cc) (k := (js.map fun q => (LK.nd h q).p).length)).2.1
  clear ho0
  refine T.block ?_
  refine T.seq ?_
  refine T.region ?_
  refine LW.q rfl (Qt.move rfl) ?_
  refine LW.q rfl (Qt.move rfl) ?_
  refine LW.e rfl (Ef.call (Bt.find B y (js.map fun q => (LK.nd h q).p).length key hkv.rise (by omega)) Try.func44 rfl rfl rfl ?_)
  rintro _ _ ⟨rfl, rfl⟩
  try simp only [List.cons_append, List.nil_append]
  refine LW.q rfl (Qt.move rfl) ?_
  refine LW.q rfl (Qt.extr rfl rfl) ?_
  refine LW.q rfl (Qt.extr rfl rfl) ?_
  refine LW.q rfl (Qt.assign rfl) ?_
  refine LW.q rfl (Qt.assign rfl) ?_
  refine LW.done ?_
  refine T.seq ?_
  refine T.block ?_
  refine T.seq ?_
  refine T.region ?_
  refine LW.q rfl (Qt.move rfl) ?_
  refine LW.q rfl (Qt.assign rfl) ?_
  refine LW.done ?_
  refine T.condP rfl (fun hth => ?_) (fun hth => ?_)
  ·
   obtain ⟨p, hp, hpk⟩ : ∃ p, y.kv[spot y.ks key]? = some p ∧ p.1 = key := by rw [keyAt] at hth; exact Option.map_eq_some_iff.1 hth
   have hsl := (List.getElem?_eq_some_iff.1 hp).1
   obtain ⟨b0, hva⟩ := hpv (by omega)
   refine T.conv (fun w ho => ho.map fun _ K => Has.vaCast hva K) ?_
   refine T.seq ?_
   refine T.region ?_
   refine LW.q rfl (Qt.move rfl) ?_
   refine LW.q rfl (Qt.nilCheck rfl) ?_
   refine LW.q rfl (Qt.fieldAddr (off := 1) (by kernel_rfl) rfl) ?_
   first | refine LW.q rfl (Qt.load (by kernel_rfl) rfl rfl) ?_ | refine LW.q rfl (Qt.load (by kernel_rfl) rfl (map_at _ _ _ (by omega))) ?_ | refine LW.q rfl (Qt.load (by kernel_rfl) rfl (flat_cell0 _ _ _ (by intros; rfl) _ (by omega) (by rfl))) ?_ | refine LW.q rfl (Qt.load (by kernel_rfl) rfl (flat_cell _ _ _ (by intros; rfl) _ _ (by omega) (by rfl))) ?_ | refine LW.q rfl (Qt.load (by kernel_rfl) rfl (bytes_at _ _ (by omega))) ?_
   refine LW.q rfl (Qt.move rfl) ?_
   refine LW.q rfl (Qt.move rfl) ?_
   refine LW.q rfl (Qt.index (spot y.ks key) (e := 2) (sz := 1) (by kernel_rfl) rfl rfl rfl hsl) ?_
   refine LW.e0 rfl (Ef.store1 (by kernel_rfl) rfl rfl rfl (by first | (simp; done) | (simp; omega)) ?_)
   try simp only [List.set_cons_zero, List.set_cons_succ]
   refine LW.done ?_
   refine T.seq ?_
   refine T.region ?_
   refine LW.q rfl (Qt.assign rfl) ?_
   refine LW.done ?_
   refine T.ret ?_
   exact ⟨.inl rfl, _, _, res [_] rfl ⟨rvT rfl, trivial⟩, ⟨by rw [put_some hc hkm.2.2.1 hpl hp hpk]; rfl, rfl⟩, (fun k K => put_there (b0 := b0) (F := F) ho ho2 hc hk hlf hrg hpl hu hpp hp hpk (Sub.any k K))⟩
  ·
   refine T.seq ?_
   refine T.region ?_
   refine LW.q rfl (Qt.move rfl) ?_
   refine LW.e rfl (Ef.call (Bt.leaf B y (js.map fun q => (LK.nd h q).p).length) Try.func45 rfl rfl rfl ?_)
   rintro _ _ ⟨rfl, rfl⟩
   try simp only [List.cons_append, List.nil_append]
   refine LW.q rfl (Qt.assign rfl) ?_
   refine LW.done ?_
   refine T.condP rfl (fun hlf0 => ?_) (fun hlf0 => ?_)
   ·
    obtain rfl : h = 0 := by rcases hkm.2.2.1 with e | e; exact e; simp at hlf0; rw [hlf0] at e; simp at e
    have hil : spot y.ks key ≤ y.kv.length := by have := spot_le y.ks key; simpa using this
    refine T.seq ?_
    refine T.region ?_
    refine LW.q rfl (Qt.move rfl) ?_
    refine LW.q rfl (Qt.move rfl) ?_
    refine LW.q rfl (Qt.nilCheck rfl) ?_
    refine LW.q rfl (Qt.fieldAddr0 (by kernel_rfl) rfl) ?_
    first | refine LW.q rfl (Qt.load (by kernel_rfl) rfl rfl) ?_ | refine LW.q rfl (Qt.load (by kernel_rfl) rfl (map_at _ _ _ (by omega))) ?_ | refine LW.q rfl (Qt.load (by kernel_rfl) rfl (flat_cell0 _ _ _ (by intros; rfl) _ (by omega) (by rfl))) ?_ | refine LW.q rfl (Qt.load (by kernel_rfl) rfl (flat_cell _ _ _ (by intros; rfl) _ _ (by omega) (by rfl))) ?_ | refine LW.q rfl (Qt.load (by kernel_rfl) rfl (bytes_at _ _ (by omega))) ?_
    refine LW.q rfl (Qt.move rfl) ?_
    refine LW.q rfl (Qt.move rfl) ?_
    refine LW.e rfl (Ef.one [_] (e := 9) (sz := 1) (by kernel_rfl) ⟨.string .empty, by kernel_rfl, rfl⟩ rfl rfl rfl (by omega) (by omega) ?_)
    intro g69
    refine LW.e rfl (Ef.call (Lb.insertS B y.ka y.kv.length y.kc (spot y.ks key) g69 (y.ks.map kT) (kT key) (by simp) hil (by omega) rfl one_kT) Try.func46 rfl rfl rfl ?_)
    rintro _ _ ⟨p5, c5, rfl, ⟨h5, rfl⟩, rfl⟩
    try simp only [List.cons_append, List.nil_append]
    refine LW.q rfl (Qt.nilCheck rfl) ?_
    refine LW.q rfl (Qt.fieldAddr0 (by kernel_rfl) rfl) ?_
    refine LW.e0 rfl (Ef.store1 (by kernel_rfl) rfl rfl rfl (by first | (simp; done) | (simp; omega)) ?_)
    try simp only [List.set_cons_zero, List.set_cons_succ]
    refine LW.done ?_
    refine T.seq ?_
    refine T.region ?_
    refine LW.q rfl (Qt.move rfl) ?_
    refine LW.q rfl (Qt.move rfl) ?_
    refine LW.q rfl (Qt.nilCheck rfl) ?_
    refine LW.q rfl (Qt.fieldAddr (off := 1) (by kernel_rfl) rfl) ?_
    first | refine LW.q rfl (Qt.load (by kernel_rfl) rfl rfl) ?_ | refine LW.q rfl (Qt.load (by kernel_rfl) rfl (map_at _ _ _ (by omega))) ?_ | refine LW.q rfl (Qt.load (by kernel_rfl) rfl (flat_cell0 _ _ _ (by intros; rfl) _ (by omega) (by rfl))) ?_ | refine LW.q rfl (Qt.load (by kernel_rfl) rfl (flat_cell _ _ _ (by intros; rfl) _ _ (by omega) (by rfl))) ?_ | refine LW.q rfl (Qt.load (by kernel_rfl) rfl (bytes_at _ _ (by omega))) ?_
    refine LW.q rfl (Qt.move rfl) ?_
    refine LW.q rfl (Qt.move rfl) ?_
    refine LW.e rfl (Ef.one [_] (e := 2) (sz := 1) (by kernel_rfl) ⟨.int .i64 0, by kernel_rfl, rfl⟩ rfl rfl rfl (by omega) (by omega) ?_)
    intro g80
    refine LW.e rfl (Ef.call (Lb.insertI B y.va y.kv.length y.vc (spot y.ks key) g80 (y.vs.map iV) (iV val) (by simp) hil (by omega) rfl one_iV) Try.func47 rfl rfl rfl ?_)
    rintro _ _ ⟨p6, c6, rfl, ⟨h6, rfl⟩, rfl⟩
    try simp only [List.cons_append, List.nil_append]
    refine LW.q rfl (Qt.nilCheck rfl) ?_
    refine LW.q rfl (Qt.fieldAddr (off := 1) (by kernel_rfl) rfl) ?_
    refine LW.e0 rfl (Ef.store1 (by kernel_rfl) rfl rfl rfl (by first | (simp; done) | (simp; omega)) ?_)
    try simp only [List.set_cons_zero, List.set_cons_succ]
    refine LW.done ?_
    refine T.seq ?_
    refine T.region ?_
    refine LW.q rfl (Qt.move rfl) ?_
    refine LW.q rfl (Qt.nilCheck rfl) ?_
    refine LW.q rfl (Qt.fieldAddr (off := 2) (by kernel_rfl) rfl) ?_
    first | refine LW.q rfl (Qt.load (by kernel_rfl) rfl rfl) ?_ | refine LW.q rfl (Qt.load (by kernel_rfl) rfl (map_at _ _ _ (by omega))) ?_ | refine LW.q rfl (Qt.load (by kernel_rfl) rfl (flat_cell0 _ _ _ (by intros; rfl) _ (by omega) (by rfl))) ?_ | refine LW.q rfl (Qt.load (by kernel_rfl) rfl (flat_cell _ _ _ (by intros; rfl) _ _ (by omega) (by rfl))) ?_ | refine LW.q rfl (Qt.load (by kernel_rfl) rfl (bytes_at _ _ (by omega))) ?_
    refine LW.q rfl (Qt.add (r := ((L.length + 1 : Nat) : Int)) rfl rfl (by rw [wr64 (by omega) (by omega)]; omega)) ?_
    refine LW.q rfl (Qt.nilCheck rfl) ?_
    refine LW.q rfl (Qt.fieldAddr (off := 2) (by kernel_rfl) rfl) ?_
    refine LW.e0 rfl (Ef.store1 (by kernel_rfl) rfl rfl rfl (by first | (simp; done) | (simp; omega)) ?_)
    try simp only [List.set_cons_zero, List.set_cons_succ]
    refine LW.done ?_
    refine T.seq ?_
    refine T.region ?_
    refine LW.q rfl (Qt.assign rfl) ?_
    refine LW.done ?_
    refine T.ret ?_
    exact ⟨.inl rfl, _, _, res [_] rfl ⟨rvT rfl, trivial⟩, ⟨by rw [put_none hc hlf hrg hpl hu hth]; rfl, rfl⟩, (fun k K => put_leaf (F := F) (a5 := some ⟨h5, 0, none⟩) (a6 := some ⟨h6, 0, none⟩) (c5 := c5) (c6 := c6) ho ho2 hc hk (hf0 rfl) hlf hrg hpl hu hpp hth (Sub.any k K))⟩
   ·
    obtain ⟨h', rfl⟩ : ∃ h', h = h' + 1 := by cases h with | zero => exact absurd (by have : js = [] := (by cases js with | nil => rfl | cons e _ => exact e.elim); rw [this]; rfl) hlf0 | succ h' => exact ⟨h', rfl⟩
    have hjl := hkm.2.2.1.resolve_left (by omega)
    obtain ⟨L1, q, L2, rfl, hl1, hl2, hlt, hgt⟩ := kid_spot (ks := js) key (by rw [toL_mk] at hut; exact hut) hjl hth
    have hqk := hkm.2.2.2 q (List.mem_append_right _ (List.mem_cons_self ..))
    have hqN := okN_false.1 hqk
    obtain ⟨b0, o0, hca, hc0⟩ := (RdV.cs (B := B) (x := y) (ps := (L1 ++ q :: L2).map fun q => (LT.nd h' q).p) hpc).at (by rw [List.length_map, List.length_append, List.length_cons]; omega)
    refine T.conv (l' := nodeL y ((L1 ++ q :: L2).map fun q => (LT.nd h' q).p) ++ nodeL (LT.nd h' q) ((LT.ksL h' q).map fun q => (LK.nd h' q).p) ++ sepL ((LT.ksL h' q).map (LK.a h')) :: sepL (L1.map (treeA h')) :: sepL (L2.map (treeA h')) :: cxA c y.p :: trB g o x.p L.length :: F) (fun w ho => ho.map fun k K => put_kid K) ?_
    simp only [nodeL, List.cons_append, List.nil_append]
    refine T.seq ?_
    refine T.drawAll 18 (by kernel_rfl) (Nat.le_of_ble_eq_true rfl) (by kernel_rfl) ?_
    refine RW.q 0 rfl rfl (by kernel_rfl) (Sub.refl _) (Qt.move rfl) ?_
    refine RW.q 1 rfl rfl (by kernel_rfl) (Sub.refl _) (Qt.nilCheck rfl) ?_
    refine RW.q 2 rfl rfl (by kernel_rfl) (Sub.refl _) (Qt.fieldAddr (off := 2) (by kernel_rfl) rfl) ?_
    refine RW.q 3 rfl rfl (by kernel_rfl) (Sub.refl _) (Qt.load (v := .slice (some ⟨b0, o0, none⟩) ((L1 ++ q :: L2).map fun q => (LT.nd h' q).p).length y.cc) (by kernel_rfl) rfl (by rw [← hca]; rfl)) ?_
    refine RW.q 4 rfl rfl (by kernel_rfl) (Sub.refl _) (Qt.move rfl) ?_
    refine RW.q 5 rfl rfl (by kernel_rfl) (Sub.refl _) (Qt.index L1.length (e := 95) (sz := 1) (by kernel_rfl) rfl rfl (by rw [hl1]) (by simp)) ?_
    refine RW.q 6 rfl rfl (by kernel_rfl) (Sub.refl _) (Qt.loadW (v := pV (LT.nd h' q).p) (by kernel_rfl) rfl (fun w ho => by have := hc0 L1.length (by simp) w (ho.map Sub.any); simpa using this)) ?_
    refine RW.q 7 rfl rfl (by kernel_rfl) (Sub.refl _) (Qt.nilCheck rfl) ?_
    refine RW.q 8 rfl rfl (by kernel_rfl) (Sub.refl _) (Qt.fieldAddr0 (by kernel_rfl) rfl) ?_
    first | refine RW.q 9 rfl rfl (by kernel_rfl) (Sub.refl _) (Qt.load (by kernel_rfl) rfl rfl) ?_ | refine RW.q 9 rfl rfl (by kernel_rfl) (Sub.refl _) (Qt.load (by kernel_rfl) rfl (map_at _ _ _ (by omega))) ?_ | refine RW.q 9 rfl rfl (by kernel_rfl) (Sub.refl _) (Qt.load (by kernel_rfl) rfl (flat_cell0 _ _ _ (by intros; rfl) _ (by omega) (by rfl))) ?_ | refine RW.q 9 rfl rfl (by kernel_rfl) (Sub.refl _) (Qt.load (by kernel_rfl) rfl (flat_cell _ _ _ (by intros; rfl) _ _ (by omega) (by rfl))) ?_ | refine RW.q 9 rfl rfl (by kernel_rfl) (Sub.refl _) (Qt.load (by kernel_rfl) rfl (bytes_at _ _ (by omega))) ?_
    refine RW.q 10 rfl rfl (by kernel_rfl) (Sub.refl _) (Qt.len (e := 9) (sz := 1) (by kernel_rfl) rfl) ?_
    refine RW.q 11 rfl rfl (by kernel_rfl) (Sub.refl _) (Qt.move rfl) ?_
    refine RW.q 12 rfl rfl (by kernel_rfl) (Sub.refl _) (Qt.nilCheck rfl) ?_
    refine RW.q 13 rfl rfl (by kernel_rfl) (Sub.refl _) (Qt.fieldAddr0 (by kernel_rfl) rfl) ?_
    first | refine RW.q 14 rfl rfl (by kernel_rfl) (Sub.refl _) (Qt.loadAgg [_] (by kernel_rfl) rfl ⟨rfl, trivial⟩) ?_ | refine RW.q 14 rfl rfl (by kernel_rfl) (Sub.refl _) (Qt.loadAgg [_] (by kernel_rfl) rfl (by exact rdl_flat _ _ _ (by intros; rfl) _ (by omega))) ?_
    refine RW.one 15 (by kernel_rfl) ?_
    refine RO.e rfl rfl (Ef.call (Bt.most B o (by omega)) Try.func42 rfl rfl rfl ?_)
    rintro _ _ ⟨rfl, rfl⟩
    try simp only [List.cons_append, List.nil_append]
    refine ⟨Sub.any, ?_⟩
    refine RW.q 16 rfl rfl (by kernel_rfl) (Sub.refl _) (Qt.eql rfl rfl) ?_
    refine RW.q 17 rfl rfl (by kernel_rfl) (Sub.refl _) (Qt.assign rfl) ?_
    refine RW.done (by rfl) ?_
    simp only [List.drop_succ_cons, List.drop_zero, List.drop_nil]
    refine LW.done ?_
    refine T.condP rfl (fun hfull => ?_) (fun hfull => ?_)
    ·
     have hkf1 : kf = 1 := by rcases Nat.lt_or_ge kf 1 with e | e; exact absurd (show (LT.nd h' q).kv.length = 2 * o - 1 by omega) (hfk (by omega) q (by rw [← hl1]; exact at_mid)); omega
     refine T.conv (l' := trB g o x.p L.length :: treeA (h' + 1) (LT.mk (h' + 1) y (L1 ++ q :: L2)) :: cxA c y.p :: F) (fun w ho => ho.map fun k K => put_fold (Sub.any k K)) ?_
     refine T.seq ?_
     refine T.region ?_
     refine LW.q rfl (Qt.move rfl) ?_
     refine LW.q rfl (Qt.move rfl) ?_
     refine LW.q rfl (Qt.move rfl) ?_
     refine LW.e rfl (Ef.call ((by have := Bt.splitT B g o x.p L.length h' y L1 L2 q ho ho2 hl2 (by omega) (by omega) hqk; rw [hl1] at this; exact this)) Try.func43 rfl rfl rfl ?_)
     rintro _ _ ⟨x', q1, q2, hp', ⟨m, hm⟩, hL', hk1, hk2, hn1, hn2, rfl⟩
     try simp only [List.cons_append, List.nil_append]
     refine LW.done ?_
     refine T.exit ?_
     obtain ⟨p', kv', ka', kc', va', vc', ca', cc'⟩ := x'
     obtain rfl : p' = y.p := hp'
     have hx1 : kv'.length = y.kv.length + 1 := by rw [show kv' = _ from hm]; simp; omega
     refine ⟨_, ?_, _, ⟨_, h' + 1, ⟨y.p, kv', ka', kc', va', vc', ca', cc'⟩, L1 ++ q1 :: q2 :: L2, c, 0, ⟨hc, put_ok hk hx1 (hf1 hkf1) hk1 hk2 ho, hlf, hrg, by rw [← hpl, Cx.toL_plug hc, Cx.toL_plug hc, hL'], by rw [← hpp]; exact Cx.plug_p rfl, Nat.zero_le _, (fun e => nomatch e), (fun e => nomatch e), fun _ k hk => put_kids hkv hl1.symm hm hn1 hn2 ho hk⟩, rfl, (updS rfl (updS rfl (updS rfl (updS rfl rfl)))), rfl⟩, (fun k K => Has.openM (h := h' + 1) (m := cxA c y.p :: trB g o x.p L.length :: F) (Sub.any k K))⟩
     first | omega | (simp; omega)
    ·
     refine T.skip ?_
     refine T.region ?_
     refine LW.q rfl (Qt.move rfl) ?_
     refine LW.q rfl (Qt.nilCheck rfl) ?_
     refine LW.q rfl (Qt.fieldAddr (off := 2) (by kernel_rfl) rfl) ?_
     refine LW.q rfl (Qt.load (v := .slice (some ⟨b0, o0, none⟩) ((L1 ++ q :: L2).map fun q => (LT.nd h' q).p).length y.cc) (by kernel_rfl) rfl (by rw [← hca]; rfl)) ?_
     refine LW.q rfl (Qt.move rfl) ?_
     refine LW.q rfl (Qt.index L1.length (e := 95) (sz := 1) (by kernel_rfl) rfl rfl (by rw [hl1]) (by simp)) ?_
     refine LW.q rfl (Qt.loadW (v := pV (LT.nd h' q).p) (by kernel_rfl) rfl (fun w ho => by have := hc0 L1.length (by simp) w (ho.map Sub.any); simpa using this)) ?_
     refine LW.q rfl (Qt.assign rfl) ?_
     refine LW.done ?_
     refine ⟨_, ?_, _, ⟨_, h', LT.nd h' q, LT.ksL h' q, .down c y L1 L2, 1, ⟨⟨hkm.1, hkm.2.1, hl2, fun k hk => hkm.2.2.2 k (List.mem_append_left _ hk), fun k hk => hkm.2.2.2 k (List.mem_append_right _ (List.mem_cons_of_mem _ hk)), hc⟩, by rw [LT.eta]; exact hqN, fun z hz => (List.mem_append.1 hz).elim (hlf z) (hlt z), fun z hz => (List.mem_append.1 hz).elim (hgt z) (hrg z), by rw [LT.eta]; exact hpl, by rw [LT.eta]; exact hpp, Nat.le_refl _, fun _ => by have := hqN.1; omega, fun _ => by have := hqN.1; omega, (fun e => nomatch e)⟩, rfl, (updS rfl (updS rfl (updS rfl (updS rfl rfl)))), rfl⟩, (fun k K => Has.downP (m := trB g o x.p L.length :: F) (by simp only [nodeL, List.cons_append, List.nil_append]; exact Sub.any k K))⟩
     first | omega | (simp; omega)
end Go.Proofs.Ytefognjcognknaa

/- btree: merge. Conditions: sizes. -/
set_option linter.unusedSimpArgs false
set_option linter.unusedVariables false
namespace Go.Proofs.Ytefognjcognknaa
open Go.RowKit
theorem erase_map {α β : Type} (f : α → β) (l : List α) (i : Nat) : (l.eraseIdx i).map f = (l.map f).eraseIdx i := by
  rw [List.eraseIdx_eq_take_drop_succ, List.eraseIdx_eq_take_drop_succ, List.map_append, List.map_take, List.map_drop]
/-- Two neighbours opened. -/
abbrev opn2 (h : Nat) (x : Nd) (M1 : List (LT h)) (a b : LT h) (M2 : List (LT h)) (m : List Assn) : List Assn :=
  ndB x ((M1 ++ a :: b :: M2).map fun k => (LT.nd h k).p).length :: ndK x :: ndV x :: ndC x ((M1 ++ a :: b :: M2).map fun k => (LT.nd h k).p) ::
  ndB (LT.nd h a) ((LT.ksL h a).map fun k => (LK.nd h k).p).length :: ndK (LT.nd h a) :: ndV (LT.nd h a) :: ndC (LT.nd h a) ((LT.ksL h a).map fun k => (LK.nd h k).p) ::
  ndB (LT.nd h b) ((LT.ksL h b).map fun k => (LK.nd h k).p).length :: ndK (LT.nd h b) :: ndV (LT.nd h b) :: ndC (LT.nd h b) ((LT.ksL h b).map fun k => (LK.nd h k).p) ::
  sepL ((LT.ksL h a).map (LK.a h)) :: sepL ((LT.ksL h b).map (LK.a h)) :: sepL (M1.map (treeA h)) :: sepL (M2.map (treeA h)) :: m
theorem Has.open2 {h : Nat} {x : Nd} {M1 M2 : List (LT h)} {a b : LT h} {m : List Assn} {k : Piece} (K : Has (treeA (h + 1) (LT.mk (h + 1) x (M1 ++ a :: b :: M2)) :: m) k) : Has (opn2 h x M1 a b M2 m) k := by
  have K1 := Has.openM (h := h + 1) K
  have K2 : Has (nodeL x ((M1 ++ a :: b :: M2).map fun k => (LT.nd h k).p) ++ (sepL ((M1 ++ a :: b :: M2).map (treeA h)) :: m)) k := K1
  have K3 := Has.cons_imp (fun _ K => Has.cons_imp (fun _ K => Has.cons_imp (fun _ K => Has.cons_imp (fun _ K => Has.kids2_out K) K) K) K) K2
  rw [← LT.eta h a, ← LT.eta h b] at K3
  have K4 : Has (nodeL x ((M1 ++ LT.mk h (LT.nd h a) (LT.ksL h a) :: LT.mk h (LT.nd h b) (LT.ksL h b) :: M2).map fun k => (LT.nd h k).p) ++ (nodeL (LT.nd h a) ((LT.ksL h a).map fun k => (LK.nd h k).p) ++ (sepL ((LT.ksL h a).map (LK.a h)) :: (nodeL (LT.nd h b) ((LT.ksL h b).map fun k => (LK.nd h k).p) ++ (sepL ((LT.ksL h b).map (LK.a h)) :: sepL (M1.map (treeA h)) :: sepL (M2.map (treeA h)) :: m))))) k := by
    refine Has.cons_imp (fun _ K => Has.cons_imp (fun _ K => Has.cons_imp (fun _ K => Has.cons_imp (fun _ K => ?_) K) K) K) K3
    have K5 := Has.openM K
    exact Has.cons_imp (fun _ K => Has.cons_imp (fun _ K => Has.cons_imp (fun _ K => Has.cons_imp (fun _ K => Has.cons_imp (fun _ K => Has.openM K) K) K) K) K) K5
  rw [LT.eta h a, LT.eta h b] at K4
  simp only [nodeL, List.cons_append, List.nil_append] at K4
  exact Sub.any k K4
theorem Has.close2 {h : Nat} {x y z : Nd} {M1 M2 : List (LT h)} {ksa ksb : List (LK h)} {m : List Assn} {k : Piece} (K : Has (ndB x (M1.map (fun k => (LT.nd h k).p) ++ y.p :: z.p :: M2.map fun k => (LT.nd h k).p).length :: ndK x :: ndV x :: ndC x (M1.map (fun k => (LT.nd h k).p) ++ y.p :: z.p :: M2.map fun k => (LT.nd h k).p) ::
  ndB y (ksa.map fun k => (LK.nd h k).p).length :: ndK y :: ndV y :: ndC y (ksa.map fun k => (LK.nd h k).p) ::
  ndB z (ksb.map fun k => (LK.nd h k).p).length :: ndK z :: ndV z :: ndC z (ksb.map fun k => (LK.nd h k).p) ::
  sepL (ksa.map (LK.a h)) :: sepL (ksb.map (LK.a h)) :: sepL (M1.map (treeA h)) :: sepL (M2.map (treeA h)) :: m) k) : Has (treeA (h + 1) (LT.mk (h + 1) x (M1 ++ LT.mk h y ksa :: LT.mk h z ksb :: M2)) :: m) k := by
  have e : M1.map (fun k => (LT.nd h k).p) ++ y.p :: z.p :: M2.map (fun k => (LT.nd h k).p) = (M1 ++ LT.mk h y ksa :: LT.mk h z ksb :: M2).map fun k => (LT.nd h k).p := by simp [LT.nd_mk]
  rw [e] at K
  have K1 : Has (nodeL y (ksa.map fun k => (LK.nd h k).p) ++ (sepL (ksa.map (LK.a h)) :: (nodeL z (ksb.map fun k => (LK.nd h k).p) ++ (sepL (ksb.map (LK.a h)) :: sepL (M1.map (treeA h)) :: sepL (M2.map (treeA h)) :: (nodeL x ((M1 ++ LT.mk h y ksa :: LT.mk h z ksb :: M2).map fun k => (LT.nd h k).p) ++ m))))) k := by
    simp only [nodeL, List.cons_append, List.nil_append]
    exact Sub.any k K
  have K2 := Has.closeM K1
  have K3 := Has.cons_imp (fun _ K => Has.closeM K) K2
  have K4 := Has.kids2_in K3
  have K5 : Has (nodeL x ((M1 ++ LT.mk h y ksa :: LT.mk h z ksb :: M2).map fun k => (LT.nd h k).p) ++ (sepL ((M1 ++ LT.mk h y ksa :: LT.mk h z ksb :: M2).map (treeA h)) :: m)) k := by
    simp only [nodeL, List.cons_append, List.nil_append] at K4 ⊢
    exact Sub.any k K4
  exact Has.closeM (h := h + 1) K5
/-- One kid opened, to be closed. -/
theorem Has.close1 {h : Nat} {x y : Nd} {M1 M2 : List (LT h)} {ksa : List (LK h)} {m : List Assn} {k : Piece} (K : Has (ndB x (M1.map (fun k => (LT.nd h k).p) ++ y.p :: M2.map fun k => (LT.nd h k).p).length :: ndK x :: ndV x :: ndC x (M1.map (fun k => (LT.nd h k).p) ++ y.p :: M2.map fun k => (LT.nd h k).p) ::
  ndB y (ksa.map fun k => (LK.nd h k).p).length :: ndK y :: ndV y :: ndC y (ksa.map fun k => (LK.nd h k).p) ::
  sepL (ksa.map (LK.a h)) :: sepL (M1.map (treeA h)) :: sepL (M2.map (treeA h)) :: m) k) : Has (treeA (h + 1) (LT.mk (h + 1) x (M1 ++ LT.mk h y ksa :: M2)) :: m) k := by
  have e : M1.map (fun k => (LT.nd h k).p) ++ y.p :: M2.map (fun k => (LT.nd h k).p) = (M1 ++ LT.mk h y ksa :: M2).map fun k => (LT.nd h k).p := by simp [LT.nd_mk]
  rw [e] at K
  have K1 : Has (nodeL y (ksa.map fun k => (LK.nd h k).p) ++ (sepL (ksa.map (LK.a h)) :: sepL (M1.map (treeA h)) :: sepL (M2.map (treeA h)) :: (nodeL x ((M1 ++ LT.mk h y ksa :: M2).map fun k => (LT.nd h k).p) ++ m))) k := by
    simp only [nodeL, List.cons_append, List.nil_append]
    exact Sub.any k K
  have K2 := Has.closeM K1
  have K4 := Has.kid_in K2
  have K5 : Has (nodeL x ((M1 ++ LT.mk h y ksa :: M2).map fun k => (LT.nd h k).p) ++ (sepL ((M1 ++ LT.mk h y ksa :: M2).map (treeA h)) :: m)) k := by
    simp only [nodeL, List.cons_append, List.nil_append] at K4 ⊢
    exact Sub.any k K4
  exact Has.closeM (h := h + 1) K5
theorem merge_end {x a b : Nd} {s : KV} {ps aps bps : List Nat} {i : Nat} {p5 p7 p8 : Option Addr} {c5 c7 c8 : Nat} {F : List Assn} {k : Piece} (hil : i < x.kv.length) (hpl : ps.length = x.kv.length + 1)
    (K : Has (blk x.p [.slice x.ka (x.kv.length - 1) x.kc, .slice x.va (x.kv.length - 1) x.vc, .slice x.ca (ps.length - 1) x.cc] 98 :: row (.slice x.ka (x.kv.length - 1) x.kc) 9 1 (x.kv.length - 1) ((x.ks.map kT).eraseIdx i) :: row (.slice x.va (x.kv.length - 1) x.vc) 2 1 (x.kv.length - 1) ((x.vs.map iV).eraseIdx i) :: row (.slice x.ca (ps.length - 1) x.cc) 95 1 (ps.length - 1) ((ps.map pV).eraseIdx (i + 1)) ::
      blk a.p [.slice p5 (a.kv.length + 1 + b.kv.length) c5, .slice p7 (a.kv.length + 1 + b.kv.length) c7, .slice p8 (aps.length + bps.length) c8] 98 :: row (.slice p5 (a.kv.length + 1 + b.kv.length) c5) 9 1 (a.kv.length + 1 + b.kv.length) (a.ks.map kT ++ [kT s.1] ++ b.ks.map kT) :: row (.slice p7 (a.kv.length + 1 + b.kv.length) c7) 2 1 (a.kv.length + 1 + b.kv.length) (a.vs.map iV ++ [iV s.2] ++ b.vs.map iV) :: row (.slice p8 (aps.length + bps.length) c8) 95 1 (aps.length + bps.length) (aps.map pV ++ bps.map pV) :: F) k) :
    Has (nodeL ⟨x.p, x.kv.eraseIdx i, x.ka, x.kc, x.va, x.vc, x.ca, x.cc⟩ (ps.eraseIdx (i + 1)) ++ nodeL ⟨a.p, a.kv ++ s :: b.kv, p5, c5, p7, c7, p8, c8⟩ (aps ++ bps) ++ F) k := by
  have e1 : (x.kv.eraseIdx i).length = x.kv.length - 1 := List.length_eraseIdx_of_lt hil
  have e2 : (ps.eraseIdx (i + 1)).length = ps.length - 1 := List.length_eraseIdx_of_lt (by omega)
  have e3 : (a.kv ++ s :: b.kv).length = a.kv.length + 1 + b.kv.length := by simp; omega
  have K1 := Has.nodeC (x := ⟨x.p, x.kv.eraseIdx i, x.ka, x.kc, x.va, x.vc, x.ca, x.cc⟩) (ps := ps.eraseIdx (i + 1)) e1.symm e2.symm (by rw [← erase_map, ← erase_map]) (by rw [← erase_map, ← erase_map]) (by rw [erase_map]) K
  rw [List.append_assoc]
  refine Has.cons_imp (fun _ K => Has.cons_imp (fun _ K => Has.cons_imp (fun _ K => Has.cons_imp (fun _ K => ?_) K) K) K) K1
  exact Has.nodeC (x := ⟨a.p, a.kv ++ s :: b.kv, p5, c5, p7, c7, p8, c8⟩) (ps := aps ++ bps) e3.symm (by simp) (by simp [Nd.ks]) (by simp [Nd.vs]) (by simp) K
set_option maxHeartbeats 4000000 in
set_option maxRecDepth 100000 in
theorem Bt.merge (B : Base) (g : Nat) (x a b : Nd) (ps aps bps : List Nat) (i : Nat) (s : KV) (hs : x.kv[i]? = some s) (hpl : ps.length = x.kv.length + 1) (ha : ps[i]? = some a.p) (hb : ps[i + 1]? = some b.p) (hxl : x.kv.length < 2 ^ 39) (hal : a.kv.length < 2 ^ 39) (hbl : b.kv.length < 2 ^ 39) (hap : aps.length < 2 ^ 39) (hbp : bps.length < 2 ^ 39) :
  Fn Try.prog B 81 #[pV g, pV x.p, .int .i64 i] (nodeL x ps ++ nodeL a aps ++ nodeL b bps) (fun u l => ∃ x' a' : Nd, x'.p = x.p ∧ a'.p = a.p ∧ x'.kv = x.kv.eraseIdx i ∧ a'.kv = a.kv ++ s :: b.kv ∧ u = pV a.p ∧ l = nodeL x' (ps.eraseIdx (i + 1)) ++ nodeL a' (aps ++ bps)) := by
 have hil := (List.getElem?_eq_some_iff.1 hs).1
 have hse := (List.getElem?_eq_some_iff.1 hs).2
 have hae := (List.getElem?_eq_some_iff.1 ha).2
 have hbe := (List.getElem?_eq_some_iff.1 hb).2
 refine Fn.enter3 113 Try.func81 rfl rfl (Nat.le_of_ble_eq_true rfl) (fun F => ?_)
 try simp only [List.cons_append, List.nil_append]
 refine T.own fun w0 ho0 => ?_
 have hxk := (ho0.slice_at (p := x.ka) (m := x.kv.length) (c := x.kc) (k := x.kv.length)).2.1
 have hxv := (ho0.slice_at (p := x.va) (m := x.kv.length) (c := x.vc) (k := x.kv.length)).2.1
 have hxc := (ho0.slice_at (p := x.ca) (m := ps.length) (c := x.cc) (k := ps.length)).2.1
 clear ho0
 obtain ⟨b0, o0, hca, hc0⟩ := (RdV.cs (B := B) hxc).at (by omega)
 obtain ⟨bk, ok, hka, hck⟩ := (RdV.ks (B := B) hxk).at (by omega)
 obtain ⟨bv, ov, hva, hcv⟩ := (RdV.vs (B := B) hxv).at (by omega)
 refine T.seq ?_
 refine T.region ?_
 refine LW.q rfl (Qt.assign rfl) ?_
 refine LW.done ?_
 refine T.seq ?_
 refine T.drawAll 16 (by kernel_rfl) (Nat.le_of_ble_eq_true rfl) (by kernel_rfl) ?_
 refine RW.q 0 rfl rfl (by kernel_rfl) (Sub.refl _) (Qt.move rfl) ?_
 refine RW.q 1 rfl rfl (by kernel_rfl) (Sub.refl _) (Qt.nilCheck rfl) ?_
 refine RW.q 2 rfl rfl (by kernel_rfl) (Sub.refl _) (Qt.fieldAddr (off := 2) (by kernel_rfl) rfl) ?_
 refine RW.q 3 rfl rfl (by kernel_rfl) (Sub.refl _) (Qt.load (v := .slice (some ⟨b0, o0, none⟩) ps.length x.cc) (by kernel_rfl) rfl (by rw [← hca]; rfl)) ?_
 refine RW.q 4 rfl rfl (by kernel_rfl) (Sub.refl _) (Qt.move rfl) ?_
 refine RW.q 5 rfl rfl (by kernel_rfl) (Sub.refl _) (Qt.index _ (e := 95) (sz := 1) (by kernel_rfl) rfl rfl rfl (by omega)) ?_
 refine RW.q 6 rfl rfl (by kernel_rfl) (Sub.refl _) (Qt.loadW (v := pV a.p) (by kernel_rfl) rfl (fun w ho => by have := hc0 i (by simp; omega) w (ho.map Sub.any); rw [List.getElem_map, hae] at this; exact this)) ?_
 refine RW.q 7 rfl rfl (by kernel_rfl) (Sub.refl _) (Qt.move rfl) ?_
 refine RW.q 8 rfl rfl (by kernel_rfl) (Sub.refl _) (Qt.nilCheck rfl) ?_
 refine RW.q 9 rfl rfl (by kernel_rfl) (Sub.refl _) (Qt.fieldAddr (off := 2) (by kernel_rfl) rfl) ?_
 refine RW.q 10 rfl rfl (by kernel_rfl) (Sub.refl _) (Qt.load (v := .slice (some ⟨b0, o0, none⟩) ps.length x.cc) (by kernel_rfl) rfl (by rw [← hca]; rfl)) ?_
 refine RW.q 11 rfl rfl (by kernel_rfl) (Sub.refl _) (Qt.move rfl) ?_
 refine RW.q 12 rfl rfl (by kernel_rfl) (Sub.refl _) (Qt.add (r := ((i + 1 : Nat) : Int)) rfl rfl (by rw [wr64 (by omega) (by omega)]; omega)) ?_
 refine RW.q 13 rfl rfl (by kernel_rfl) (Sub.refl _) (Qt.index _ (e := 95) (sz := 1) (by kernel_rfl) rfl rfl rfl (by omega)) ?_
 refine RW.q 14 rfl rfl (by kernel_rfl) (Sub.refl _) (Qt.loadW (v := pV b.p) (by kernel_rfl) rfl (fun w ho => by have := hc0 (i + 1) (by simp; omega) w (ho.map Sub.any); rw [List.getElem_map, hbe] at this; exact this)) ?_
 refine RW.q 15 rfl rfl (by kernel_rfl) (Sub.refl _) (Qt.assign rfl) ?_
 refine RW.done (by rfl) ?_
 simp only [List.drop_succ_cons, List.drop_zero, List.drop_nil]
 refine LW.q rfl (Qt.assign rfl) ?_
 refine LW.done ?_
 refine T.seq ?_
 refine T.draw 19 ([ndB x ps.length, ndK x, ndB a aps.length, ndB b bps.length]) (by kernel_rfl) (Nat.le_of_ble_eq_true rfl) (by kernel_rfl) ?_
 refine RW.q 0 rfl rfl (by kernel_rfl) Sub.any (Qt.move rfl) ?_
 refine RW.q 1 rfl rfl (by kernel_rfl) Sub.any (Qt.move rfl) ?_
 refine RW.q 2 rfl rfl (by kernel_rfl) Sub.any (Qt.nilCheck rfl) ?_
 refine RW.q 3 rfl rfl (by kernel_rfl) Sub.any (Qt.fieldAddr0 (by kernel_rfl) rfl) ?_
 first | refine RW.q 4 rfl rfl (by kernel_rfl) Sub.any (Qt.load (by kernel_rfl) rfl rfl) ?_ | refine RW.q 4 rfl rfl (by kernel_rfl) Sub.any (Qt.load (by kernel_rfl) rfl (map_at _ _ _ (by omega))) ?_ | refine RW.q 4 rfl rfl (by kernel_rfl) Sub.any (Qt.load (by kernel_rfl) rfl (flat_cell0 _ _ _ (by intros; rfl) _ (by omega) (by rfl))) ?_ | refine RW.q 4 rfl rfl (by kernel_rfl) Sub.any (Qt.load (by kernel_rfl) rfl (flat_cell _ _ _ (by intros; rfl) _ _ (by omega) (by rfl))) ?_ | refine RW.q 4 rfl rfl (by kernel_rfl) Sub.any (Qt.load (by kernel_rfl) rfl (bytes_at _ _ (by omega))) ?_
 refine RW.q 5 rfl rfl (by kernel_rfl) Sub.any (Qt.move rfl) ?_
 refine RW.q 6 rfl rfl (by kernel_rfl) Sub.any (Qt.nilCheck rfl) ?_
 refine RW.q 7 rfl rfl (by kernel_rfl) Sub.any (Qt.fieldAddr0 (by kernel_rfl) rfl) ?_
 refine RW.q 8 rfl rfl (by kernel_rfl) Sub.any (Qt.load (v := .slice (some ⟨bk, ok, none⟩) x.kv.length x.kc) (by kernel_rfl) rfl (by rw [← hka]; rfl)) ?_
 refine RW.q 9 rfl rfl (by kernel_rfl) Sub.any (Qt.move rfl) ?_
 refine RW.q 10 rfl rfl (by kernel_rfl) Sub.any (Qt.index _ (e := 9) (sz := 1) (by kernel_rfl) rfl rfl rfl (by omega)) ?_
 refine RW.q 11 rfl rfl (by kernel_rfl) Sub.any (Qt.loadW (v := kT s.1) (by kernel_rfl) rfl (fun w ho => by have := hck i (by simp; omega) w (ho.map Sub.any); simpa [hse] using this)) ?_
 refine RW.q 14 rfl rfl (by kernel_rfl) Sub.any (Qt.move rfl) ?_
 refine RW.q 15 rfl rfl (by kernel_rfl) Sub.any (Qt.nilCheck rfl) ?_
 refine RW.q 16 rfl rfl (by kernel_rfl) Sub.any (Qt.fieldAddr0 (by kernel_rfl) rfl) ?_
 first | refine RW.q 17 rfl rfl (by kernel_rfl) Sub.any (Qt.load (by kernel_rfl) rfl rfl) ?_ | refine RW.q 17 rfl rfl (by kernel_rfl) Sub.any (Qt.load (by kernel_rfl) rfl (map_at _ _ _ (by omega))) ?_ | refine RW.q 17 rfl rfl (by kernel_rfl) Sub.any (Qt.load (by kernel_rfl) rfl (flat_cell0 _ _ _ (by intros; rfl) _ (by omega) (by rfl))) ?_ | refine RW.q 17 rfl rfl (by kernel_rfl) Sub.any (Qt.load (by kernel_rfl) rfl (flat_cell _ _ _ (by intros; rfl) _ _ (by omega) (by rfl))) ?_ | refine RW.q 17 rfl rfl (by kernel_rfl) Sub.any (Qt.load (by kernel_rfl) rfl (bytes_at _ _ (by omega))) ?_
 refine RW.one 12 (by kernel_rfl) ?_
 refine RO.eS rfl rfl (Ef.one [_] (e := 9) (sz := 1) (by kernel_rfl) ⟨.string .empty, by kernel_rfl, rfl⟩ rfl rfl rfl (by omega) (by omega) ?_)
 intro g36
 refine ⟨Sub.any, ?_⟩
 refine RW.one 13 (by kernel_rfl) ?_
 refine RO.eS rfl rfl (Ef.append Lb.elemS rfl rfl (SrcOf.blk (by kernel_rfl) rfl (by simp [Value.oneCell'])) (by unfold maxLen; omega) (by omega) ?_)
 rintro p4 c4 hp4
 try simp only [List.cons_append, List.nil_append]
 refine ⟨Sub.any, ?_⟩
 refine RW.one 18 (by kernel_rfl) ?_
 refine RO.r rfl rfl (by kernel_rfl) (Ef.append Lb.elemS rfl rfl (SrcOf.row (by kernel_rfl) one_kT) (by unfold maxLen; omega) (by omega) ?_)
 rintro p5 c5 hp5
 try simp only [List.cons_append, List.nil_append]
 refine RW.done (by rfl) ?_
 simp only [List.drop_succ_cons, List.drop_zero, List.drop_nil]
 refine LW.q rfl (Qt.nilCheck rfl) ?_
 refine LW.q rfl (Qt.fieldAddr0 (by kernel_rfl) rfl) ?_
 refine LW.e0 rfl (Ef.store1 (by kernel_rfl) rfl rfl rfl (by first | (simp; done) | (simp; omega)) ?_)
 try simp only [List.set_cons_zero, List.set_cons_succ]
 refine LW.done ?_
 refine T.seq ?_
 refine T.draw 19 ([ndB x ps.length, ndV x, blk a.p [.slice p5 (a.kv.length + 1 + b.kv.length) c5, .slice a.va a.kv.length a.vc, .slice a.ca aps.length a.cc] 98, ndB b bps.length]) (by kernel_rfl) (Nat.le_of_ble_eq_true rfl) (by kernel_rfl) ?_
 refine RW.q 0 rfl rfl (by kernel_rfl) Sub.any (Qt.move rfl) ?_
 refine RW.q 1 rfl rfl (by kernel_rfl) Sub.any (Qt.move rfl) ?_
 refine RW.q 2 rfl rfl (by kernel_rfl) Sub.any (Qt.nilCheck rfl) ?_
 refine RW.q 3 rfl rfl (by kernel_rfl) Sub.any (Qt.fieldAddr (off := 1) (by kernel_rfl) rfl) ?_
 first | refine RW.q 4 rfl rfl (by kernel_rfl) Sub.any (Qt.load (by kernel_rfl) rfl rfl) ?_ | refine RW.q 4 rfl rfl (by kernel_rfl) Sub.any (Qt.load (by kernel_rfl) rfl (map_at _ _ _ (by omega))) ?_ | refine RW.q 4 rfl rfl (by kernel_rfl) Sub.any (Qt.load (by kernel_rfl) rfl (flat_cell0 _ _ _ (by intros; rfl) _ (by omega) (by rfl))) ?_ | refine RW.q 4 rfl rfl (by kernel_rfl) Sub.any (Qt.load (by kernel_rfl) rfl (flat_cell _ _ _ (by intros; rfl) _ _ (by omega) (by rfl))) ?_ | refine RW.q 4 rfl rfl (by kernel_rfl) Sub.any (Qt.load (by kernel_rfl) rfl (bytes_at _ _ (by omega))) ?_
 refine RW.q 5 rfl rfl (by kernel_rfl) Sub.any (Qt.move rfl) ?_
 refine RW.q 6 rfl rfl (by kernel_rfl) Sub.any (Qt.nilCheck rfl) ?_
 refine RW.q 7 rfl rfl (by kernel_rfl) Sub.any (Qt.fieldAddr (off := 1) (by kernel_rfl) rfl) ?_
 refine RW.q 8 rfl rfl (by kernel_rfl) Sub.any (Qt.load (v := .slice (some ⟨bv, ov, none⟩) x.kv.length x.vc) (by kernel_rfl) rfl (by rw [← hva]; rfl)) ?_
 refine RW.q 9 rfl rfl (by kernel_rfl) Sub.any (Qt.move rfl) ?_
 refine RW.q 10 rfl rfl (by kernel_rfl) Sub.any (Qt.index _ (e := 2) (sz := 1) (by kernel_rfl) rfl rfl rfl (by omega)) ?_
 refine RW.q 11 rfl rfl (by kernel_rfl) Sub.any (Qt.loadW (v := iV s.2) (by kernel_rfl) rfl (fun w ho => by have := hcv i (by simp; omega) w (ho.map Sub.any); simpa [hse] using this)) ?_
 refine RW.q 14 rfl rfl (by kernel_rfl) Sub.any (Qt.move rfl) ?_
 refine RW.q 15 rfl rfl (by kernel_rfl) Sub.any (Qt.nilCheck rfl) ?_
 refine RW.q 16 rfl rfl (by kernel_rfl) Sub.any (Qt.fieldAddr (off := 1) (by kernel_rfl) rfl) ?_
 first | refine RW.q 17 rfl rfl (by kernel_rfl) Sub.any (Qt.load (by kernel_rfl) rfl rfl) ?_ | refine RW.q 17 rfl rfl (by kernel_rfl) Sub.any (Qt.load (by kernel_rfl) rfl (map_at _ _ _ (by omega))) ?_ | refine RW.q 17 rfl rfl (by kernel_rfl) Sub.any (Qt.load (by kernel_rfl) rfl (flat_cell0 _ _ _ (by intros; rfl) _ (by omega) (by rfl))) ?_ | refine RW.q 17 rfl rfl (by kernel_rfl) Sub.any (Qt.load (by kernel_rfl) rfl (flat_cell _ _ _ (by intros; rfl) _ _ (by omega) (by rfl))) ?_ | refine RW.q 17 rfl rfl (by kernel_rfl) Sub.any (Qt.load (by kernel_rfl) rfl (bytes_at _ _ (by omega))) ?_
 refine RW.one 12 (by kernel_rfl) ?_
 refine RO.eS rfl rfl (Ef.one [_] (e := 2) (sz := 1) (by kernel_rfl) ⟨.int .i64 0, by kernel_rfl, rfl⟩ rfl rfl rfl (by omega) (by omega) ?_)
 intro g57
 refine ⟨Sub.any, ?_⟩
 refine RW.one 13 (by kernel_rfl) ?_
 refine RO.eS rfl rfl (Ef.append Lb.elemI rfl rfl (SrcOf.blk (by kernel_rfl) rfl (by simp [Value.oneCell'])) (by unfold maxLen; omega) (by omega) ?_)
 rintro p6 c6 hp6
 try simp only [List.cons_append, List.nil_append]
 refine ⟨Sub.any, ?_⟩
 refine RW.one 18 (by kernel_rfl) ?_
 refine RO.r rfl rfl (by kernel_rfl) (Ef.append Lb.elemI rfl rfl (SrcOf.row (by kernel_rfl) one_iV) (by unfold maxLen; omega) (by omega) ?_)
 rintro p7 c7 hp7
 try simp only [List.cons_append, List.nil_append]
 refine RW.done (by rfl) ?_
 simp only [List.drop_succ_cons, List.drop_zero, List.drop_nil]
 refine LW.q rfl (Qt.nilCheck rfl) ?_
 refine LW.q rfl (Qt.fieldAddr (off := 1) (by kernel_rfl) rfl) ?_
 refine LW.e0 rfl (Ef.store1 (by kernel_rfl) rfl rfl rfl (by first | (simp; done) | (simp; omega)) ?_)
 try simp only [List.set_cons_zero, List.set_cons_succ]
 refine LW.done ?_
 refine T.seq ?_
 refine T.drawBl 10 none (by kernel_rfl) (Nat.le_of_ble_eq_true rfl) (by kernel_rfl) ?_
 refine RW.q 0 rfl rfl (by kernel_rfl) Sub.any (Qt.move rfl) ?_
 refine RW.q 1 rfl rfl (by kernel_rfl) Sub.any (Qt.move rfl) ?_
 refine RW.q 2 rfl rfl (by kernel_rfl) Sub.any (Qt.nilCheck rfl) ?_
 refine RW.q 3 rfl rfl (by kernel_rfl) Sub.any (Qt.fieldAddr (off := 2) (by kernel_rfl) rfl) ?_
 first | refine RW.q 4 rfl rfl (by kernel_rfl) Sub.any (Qt.load (by kernel_rfl) rfl rfl) ?_ | refine RW.q 4 rfl rfl (by kernel_rfl) Sub.any (Qt.load (by kernel_rfl) rfl (map_at _ _ _ (by omega))) ?_ | refine RW.q 4 rfl rfl (by kernel_rfl) Sub.any (Qt.load (by kernel_rfl) rfl (flat_cell0 _ _ _ (by intros; rfl) _ (by omega) (by rfl))) ?_ | refine RW.q 4 rfl rfl (by kernel_rfl) Sub.any (Qt.load (by kernel_rfl) rfl (flat_cell _ _ _ (by intros; rfl) _ _ (by omega) (by rfl))) ?_ | refine RW.q 4 rfl rfl (by kernel_rfl) Sub.any (Qt.load (by kernel_rfl) rfl (bytes_at _ _ (by omega))) ?_
 refine RW.q 5 rfl rfl (by kernel_rfl) Sub.any (Qt.move rfl) ?_
 refine RW.q 6 rfl rfl (by kernel_rfl) Sub.any (Qt.nilCheck rfl) ?_
 refine RW.q 7 rfl rfl (by kernel_rfl) Sub.any (Qt.fieldAddr (off := 2) (by kernel_rfl) rfl) ?_
 first | refine RW.q 8 rfl rfl (by kernel_rfl) Sub.any (Qt.load (by kernel_rfl) rfl rfl) ?_ | refine RW.q 8 rfl rfl (by kernel_rfl) Sub.any (Qt.load (by kernel_rfl) rfl (map_at _ _ _ (by omega))) ?_ | refine RW.q 8 rfl rfl (by kernel_rfl) Sub.any (Qt.load (by kernel_rfl) rfl (flat_cell0 _ _ _ (by intros; rfl) _ (by omega) (by rfl))) ?_ | refine RW.q 8 rfl rfl (by kernel_rfl) Sub.any (Qt.load (by kernel_rfl) rfl (flat_cell _ _ _ (by intros; rfl) _ _ (by omega) (by rfl))) ?_ | refine RW.q 8 rfl rfl (by kernel_rfl) Sub.any (Qt.load (by kernel_rfl) rfl (bytes_at _ _ (by omega))) ?_
 refine RW.one 9 (by kernel_rfl) ?_
 refine RO.r rfl rfl (by kernel_rfl) (Ef.append Lb.elemN rfl rfl (SrcOf.row (by kernel_rfl) one_pV) (by unfold maxLen; omega) (by omega) ?_)
 rintro p8 c8 hp8
 try simp only [List.cons_append, List.nil_append]
 refine RW.done (by rfl) ?_
 simp only [List.drop_succ_cons, List.drop_zero, List.drop_nil]
 refine LW.q rfl (Qt.nilCheck rfl) ?_
 refine LW.q rfl (Qt.fieldAddr (off := 2) (by kernel_rfl) rfl) ?_
 refine LW.e0 rfl (Ef.store1 (by kernel_rfl) rfl rfl rfl (by first | (simp; done) | (simp; omega)) ?_)
 try simp only [List.set_cons_zero, List.set_cons_succ]
 refine LW.done ?_
 refine T.seq ?_
 refine T.draw 21 ([]) (by kernel_rfl) (Nat.le_of_ble_eq_true rfl) (by kernel_rfl) ?_
 refine RW.q 0 rfl rfl (by kernel_rfl) Sub.any (Qt.move rfl) ?_
 refine RW.q 1 rfl rfl (by kernel_rfl) Sub.any (Qt.move rfl) ?_
 refine RW.q 2 rfl rfl (by kernel_rfl) Sub.any (Qt.move rfl) ?_
 refine RW.q 3 rfl rfl (by kernel_rfl) Sub.any (Qt.nilCheck rfl) ?_
 refine RW.q 4 rfl rfl (by kernel_rfl) Sub.any (Qt.fieldAddr0 (by kernel_rfl) rfl) ?_
 refine RW.q 6 rfl rfl (by kernel_rfl) Sub.any (Qt.move rfl) ?_
 refine RW.q 7 rfl rfl (by kernel_rfl) Sub.any (Qt.move rfl) ?_
 refine RW.q 8 rfl rfl (by kernel_rfl) Sub.any (Qt.add (r := ((i + 1 : Nat) : Int)) rfl rfl (by rw [wr64 (by omega) (by omega)]; omega)) ?_
 refine RW.q 10 rfl rfl (by kernel_rfl) Sub.any (Qt.move rfl) ?_
 refine RW.q 11 rfl rfl (by kernel_rfl) Sub.any (Qt.nilCheck rfl) ?_
 refine RW.q 12 rfl rfl (by kernel_rfl) Sub.any (Qt.fieldAddr (off := 1) (by kernel_rfl) rfl) ?_
 refine RW.q 14 rfl rfl (by kernel_rfl) Sub.any (Qt.move rfl) ?_
 refine RW.q 15 rfl rfl (by kernel_rfl) Sub.any (Qt.move rfl) ?_
 refine RW.q 16 rfl rfl (by kernel_rfl) Sub.any (Qt.add (r := ((i + 1 : Nat) : Int)) rfl rfl (by rw [wr64 (by omega) (by omega)]; omega)) ?_
 refine RW.all [5, 13] (by kernel_rfl) (List.forall_mem_cons.2 ⟨?_, List.forall_mem_cons.2 ⟨?_, List.forall_mem_nil _⟩⟩)
 ·
  first | refine RO.eS rfl rfl (Ef.qt (Qt.load (by kernel_rfl) rfl rfl) ?_) | refine RO.eS rfl rfl (Ef.qt (Qt.load (by kernel_rfl) rfl (map_at _ _ _ (by omega))) ?_) | refine RO.eS rfl rfl (Ef.qt (Qt.load (by kernel_rfl) rfl (flat_cell0 _ _ _ (by intros; rfl) _ (by omega) (by rfl))) ?_) | refine RO.eS rfl rfl (Ef.qt (Qt.load (by kernel_rfl) rfl (flat_cell _ _ _ (by intros; rfl) _ _ (by omega) (by rfl))) ?_) | refine RO.eS rfl rfl (Ef.qt (Qt.load (by kernel_rfl) rfl (bytes_at _ _ (by omega))) ?_)
  refine ⟨Sub.any, ?_⟩
  refine RW.all [9, 13] (by kernel_rfl) (List.forall_mem_cons.2 ⟨?_, List.forall_mem_cons.2 ⟨?_, List.forall_mem_nil _⟩⟩)
  ·
   refine RO.eS rfl rfl (Ef.call (Lb.deleteS B x.ka x.kv.length x.kc i (x.ks.map kT) (by simp) hil (by omega) one_kT) Try.func77 rfl rfl rfl ?_)
   rintro _ _ ⟨rfl, rfl⟩
   try simp only [List.cons_append, List.nil_append]
   refine ⟨Sub.any, ?_⟩
   refine RW.one 13 (by kernel_rfl) ?_
   first | refine RO.eS rfl rfl (Ef.qt (Qt.load (by kernel_rfl) rfl rfl) ?_) | refine RO.eS rfl rfl (Ef.qt (Qt.load (by kernel_rfl) rfl (map_at _ _ _ (by omega))) ?_) | refine RO.eS rfl rfl (Ef.qt (Qt.load (by kernel_rfl) rfl (flat_cell0 _ _ _ (by intros; rfl) _ (by omega) (by rfl))) ?_) | refine RO.eS rfl rfl (Ef.qt (Qt.load (by kernel_rfl) rfl (flat_cell _ _ _ (by intros; rfl) _ _ (by omega) (by rfl))) ?_) | refine RO.eS rfl rfl (Ef.qt (Qt.load (by kernel_rfl) rfl (bytes_at _ _ (by omega))) ?_)
   refine ⟨Sub.any, ?_⟩
   refine RW.one 17 (by kernel_rfl) ?_
   refine RO.r rfl rfl (by kernel_rfl) (Ef.call (Lb.deleteI B x.va x.kv.length x.vc i (x.vs.map iV) (by simp) hil (by omega) one_iV) Try.func78 rfl rfl rfl ?_)
   rintro _ _ ⟨rfl, rfl⟩
   try simp only [List.cons_append, List.nil_append]
   refine RW.q 18 rfl rfl (by kernel_rfl) (Sub.refl _) (Qt.nilCheck rfl) ?_
   refine RW.q 19 rfl rfl (by kernel_rfl) (Sub.refl _) (Qt.fieldAddr0 (by kernel_rfl) rfl) ?_
   refine RW.one 20 (by kernel_rfl) ?_
   refine RO.r0 rfl rfl (by kernel_rfl) (Ef.store1 (by kernel_rfl) rfl rfl rfl (by first | (simp; done) | (simp; omega)) ?_)
   try simp only [List.set_cons_zero, List.set_cons_succ]
   refine RW.done (by rfl) ?_
   simp only [List.drop_succ_cons, List.drop_zero, List.drop_nil]
   refine LW.q rfl (Qt.nilCheck rfl) ?_
   refine LW.q rfl (Qt.fieldAddr (off := 1) (by kernel_rfl) rfl) ?_
   refine LW.e0 rfl (Ef.store1 (by kernel_rfl) rfl rfl rfl (by first | (simp; done) | (simp; omega)) ?_)
   try simp only [List.set_cons_zero, List.set_cons_succ]
   refine LW.done ?_
   refine T.seq ?_
   refine T.region ?_
   refine LW.q rfl (Qt.move rfl) ?_
   refine LW.q rfl (Qt.move rfl) ?_
   refine LW.q rfl (Qt.nilCheck rfl) ?_
   refine LW.q rfl (Qt.fieldAddr (off := 2) (by kernel_rfl) rfl) ?_
   first | refine LW.q rfl (Qt.load (by kernel_rfl) rfl rfl) ?_ | refine LW.q rfl (Qt.load (by kernel_rfl) rfl (map_at _ _ _ (by omega))) ?_ | refine LW.q rfl (Qt.load (by kernel_rfl) rfl (flat_cell0 _ _ _ (by intros; rfl) _ (by omega) (by rfl))) ?_ | refine LW.q rfl (Qt.load (by kernel_rfl) rfl (flat_cell _ _ _ (by intros; rfl) _ _ (by omega) (by rfl))) ?_ | refine LW.q rfl (Qt.load (by kernel_rfl) rfl (bytes_at _ _ (by omega))) ?_
   refine LW.q rfl (Qt.move rfl) ?_
   refine LW.q rfl (Qt.add (r := ((i + 1 : Nat) : Int)) rfl rfl (by rw [wr64 (by omega) (by omega)]; omega)) ?_
   refine LW.q rfl (Qt.move rfl) ?_
   refine LW.q rfl (Qt.add (r := ((i + 1 + 1 : Nat) : Int)) rfl rfl (by rw [wr64 (by omega) (by omega)]; omega)) ?_
   refine LW.e rfl (Ef.call (Lb.deleteN B x.ca ps.length x.cc (i + 1) (ps.map pV) (by simp) (by omega) (by omega) one_pV) Try.func93 rfl rfl rfl ?_)
   rintro _ _ ⟨rfl, rfl⟩
   try simp only [List.cons_append, List.nil_append]
   refine LW.q rfl (Qt.nilCheck rfl) ?_
   refine LW.q rfl (Qt.fieldAddr (off := 2) (by kernel_rfl) rfl) ?_
   refine LW.e0 rfl (Ef.store1 (by kernel_rfl) rfl rfl rfl (by first | (simp; done) | (simp; omega)) ?_)
   try simp only [List.set_cons_zero, List.set_cons_succ]
   refine LW.done ?_
   refine T.seq ?_
   refine T.region ?_
   refine LW.q rfl (Qt.move rfl) ?_
   refine LW.q rfl (Qt.assign rfl) ?_
   refine LW.done ?_
   refine T.ret ?_
   exact ⟨.inl rfl, _, _, res [_] rfl ⟨rvT rfl, trivial⟩, ⟨⟨x.p, x.kv.eraseIdx i, x.ka, x.kc, x.va, x.vc, x.ca, x.cc⟩, ⟨a.p, a.kv ++ s :: b.kv, p5, c5, p7, c7, p8, c8⟩, rfl, rfl, rfl, rfl, rfl, rfl⟩, (fun k K => merge_end (s := s) (x := x) (a := a) (b := b) hil hpl (p5 := p5) (p7 := p7) (p8 := p8) (c5 := c5) (c7 := c7) (c8 := c8) (Sub.any k K))⟩
  ·
   first | refine RO.eS rfl rfl (Ef.qt (Qt.load (by kernel_rfl) rfl rfl) ?_) | refine RO.eS rfl rfl (Ef.qt (Qt.load (by kernel_rfl) rfl (map_at _ _ _ (by omega))) ?_) | refine RO.eS rfl rfl (Ef.qt (Qt.load (by kernel_rfl) rfl (flat_cell0 _ _ _ (by intros; rfl) _ (by omega) (by rfl))) ?_) | refine RO.eS rfl rfl (Ef.qt (Qt.load (by kernel_rfl) rfl (flat_cell _ _ _ (by intros; rfl) _ _ (by omega) (by rfl))) ?_) | refine RO.eS rfl rfl (Ef.qt (Qt.load (by kernel_rfl) rfl (bytes_at _ _ (by omega))) ?_)
   refine ⟨Sub.any, ?_⟩
   refine RW.one 9 (by kernel_rfl) ?_
   refine RO.eS rfl rfl (Ef.call (Lb.deleteS B x.ka x.kv.length x.kc i (x.ks.map kT) (by simp) hil (by omega) one_kT) Try.func77 rfl rfl rfl ?_)
   rintro _ _ ⟨rfl, rfl⟩
   try simp only [List.cons_append, List.nil_append]
   refine ⟨Sub.any, ?_⟩
   refine RW.one 17 (by kernel_rfl) ?_
   refine RO.r rfl rfl (by kernel_rfl) (Ef.call (Lb.deleteI B x.va x.kv.length x.vc i (x.vs.map iV) (by simp) hil (by omega) one_iV) Try.func78 rfl rfl rfl ?_)
   rintro _ _ ⟨rfl, rfl⟩
   try simp only [List.cons_append, List.nil_append]
   refine RW.q 18 rfl rfl (by kernel_rfl) (Sub.refl _) (Qt.nilCheck rfl) ?_
   refine RW.q 19 rfl rfl (by kernel_rfl) (Sub.refl _) (Qt.fieldAddr0 (by kernel_rfl) rfl) ?_
   refine RW.one 20 (by kernel_rfl) ?_
   refine RO.r0 rfl rfl (by kernel_rfl) (Ef.store1 (by kernel_rfl) rfl rfl rfl (by first | (simp; done) | (simp; omega)) ?_)
   try simp only [List.set_cons_zero, List.set_cons_succ]
   refine RW.done (by rfl) ?_
   simp only [List.drop_succ_cons, List.drop_zero, List.drop_nil]
   refine LW.q rfl (Qt.nilCheck rfl) ?_
   refine LW.q rfl (Qt.fieldAddr (off := 1) (by kernel_rfl) rfl) ?_
   refine LW.e0 rfl (Ef.store1 (by kernel_rfl) rfl rfl rfl (by first | (simp; done) | (simp; omega)) ?_)
   try simp only [List.set_cons_zero, List.set_cons_succ]
   refine LW.done ?_
   refine T.seq ?_
   refine T.region ?_
   refine LW.q rfl (Qt.move rfl) ?_
   refine LW.q rfl (Qt.move rfl) ?_
   refine LW.q rfl (Qt.nilCheck rfl) ?_
   refine LW.q rfl (Qt.fieldAddr (off := 2) (by kernel_rfl) rfl) ?_
   first | refine LW.q rfl (Qt.load (by kernel_rfl) rfl rfl) ?_ | refine LW.q rfl (Qt.load (by kernel_rfl) rfl (map_at _ _ _ (by omega))) ?_ | refine LW.q rfl (Qt.load (by kernel_rfl) rfl (flat_cell0 _ _ _ (by intros; rfl) _ (by omega) (by rfl))) ?_ | refine LW.q rfl (Qt.load (by kernel_rfl) rfl (flat_cell _ _ _ (by intros; rfl) _ _ (by omega) (by rfl))) ?_ | refine LW.q rfl (Qt.load (by kernel_rfl) rfl (bytes_at _ _ (by omega))) ?_
   refine LW.q rfl (Qt.move rfl) ?_
   refine LW.q rfl (Qt.add (r := ((i + 1 : Nat) : Int)) rfl rfl (by rw [wr64 (by omega) (by omega)]; omega)) ?_
   refine LW.q rfl (Qt.move rfl) ?_
   refine LW.q rfl (Qt.add (r := ((i + 1 + 1 : Nat) : Int)) rfl rfl (by rw [wr64 (by omega) (by omega)]; omega)) ?_
   refine LW.e rfl (Ef.call (Lb.deleteN B x.ca ps.length x.cc (i + 1) (ps.map pV) (by simp) (by omega) (by omega) one_pV) Try.func93 rfl rfl rfl ?_)
   rintro _ _ ⟨rfl, rfl⟩
   try simp only [List.cons_append, List.nil_append]
   refine LW.q rfl (Qt.nilCheck rfl) ?_
   refine LW.q rfl (Qt.fieldAddr (off := 2) (by kernel_rfl) rfl) ?_
   refine LW.e0 rfl (Ef.store1 (by kernel_rfl) rfl rfl rfl (by first | (simp; done) | (simp; omega)) ?_)
   try simp only [List.set_cons_zero, List.set_cons_succ]
   refine LW.done ?_
   refine T.seq ?_
   refine T.region ?_
   refine LW.q rfl (Qt.move rfl) ?_
   refine LW.q rfl (Qt.assign rfl) ?_
   refine LW.done ?_
   refine T.ret ?_
   exact ⟨.inl rfl, _, _, res [_] rfl ⟨rvT rfl, trivial⟩, ⟨⟨x.p, x.kv.eraseIdx i, x.ka, x.kc, x.va, x.vc, x.ca, x.cc⟩, ⟨a.p, a.kv ++ s :: b.kv, p5, c5, p7, c7, p8, c8⟩, rfl, rfl, rfl, rfl, rfl, rfl⟩, (fun k K => merge_end (s := s) (x := x) (a := a) (b := b) hil hpl (p5 := p5) (p7 := p7) (p8 := p8) (c5 := c5) (c7 := c7) (c8 := c8) (Sub.any k K))⟩
 ·
  first | refine RO.eS rfl rfl (Ef.qt (Qt.load (by kernel_rfl) rfl rfl) ?_) | refine RO.eS rfl rfl (Ef.qt (Qt.load (by kernel_rfl) rfl (map_at _ _ _ (by omega))) ?_) | refine RO.eS rfl rfl (Ef.qt (Qt.load (by kernel_rfl) rfl (flat_cell0 _ _ _ (by intros; rfl) _ (by omega) (by rfl))) ?_) | refine RO.eS rfl rfl (Ef.qt (Qt.load (by kernel_rfl) rfl (flat_cell _ _ _ (by intros; rfl) _ _ (by omega) (by rfl))) ?_) | refine RO.eS rfl rfl (Ef.qt (Qt.load (by kernel_rfl) rfl (bytes_at _ _ (by omega))) ?_)
  refine ⟨Sub.any, ?_⟩
  refine RW.one 5 (by kernel_rfl) ?_
  first | refine RO.eS rfl rfl (Ef.qt (Qt.load (by kernel_rfl) rfl rfl) ?_) | refine RO.eS rfl rfl (Ef.qt (Qt.load (by kernel_rfl) rfl (map_at _ _ _ (by omega))) ?_) | refine RO.eS rfl rfl (Ef.qt (Qt.load (by kernel_rfl) rfl (flat_cell0 _ _ _ (by intros; rfl) _ (by omega) (by rfl))) ?_) | refine RO.eS rfl rfl (Ef.qt (Qt.load (by kernel_rfl) rfl (flat_cell _ _ _ (by intros; rfl) _ _ (by omega) (by rfl))) ?_) | refine RO.eS rfl rfl (Ef.qt (Qt.load (by kernel_rfl) rfl (bytes_at _ _ (by omega))) ?_)
  refine ⟨Sub.any, ?_⟩
  refine RW.one 9 (by kernel_rfl) ?_
  refine RO.eS rfl rfl (Ef.call (Lb.deleteS B x.ka x.kv.length x.kc i (x.ks.map kT) (by simp) hil (by omega) one_kT) Try.func77 rfl rfl rfl ?_)
  rintro _ _ ⟨rfl, rfl⟩
  try simp only [List.cons_append, List.nil_append]
  refine ⟨Sub.any, ?_⟩
  refine RW.one 17 (by kernel_rfl) ?_
  refine RO.r rfl rfl (by kernel_rfl) (Ef.call (Lb.deleteI B x.va x.kv.length x.vc i (x.vs.map iV) (by simp) hil (by omega) one_iV) Try.func78 rfl rfl rfl ?_)
  rintro _ _ ⟨rfl, rfl⟩
  try simp only [List.cons_append, List.nil_append]
  refine RW.q 18 rfl rfl (by kernel_rfl) (Sub.refl _) (Qt.nilCheck rfl) ?_
  refine RW.q 19 rfl rfl (by kernel_rfl) (Sub.refl _) (Qt.fieldAddr0 (by kernel_rfl) rfl) ?_
  refine RW.one 20 (by kernel_rfl) ?_
  refine RO.r0 rfl rfl (by kernel_rfl) (Ef.store1 (by kernel_rfl) rfl rfl rfl (by first | (simp; done) | (simp; omega)) ?_)
  try simp only [List.set_cons_zero, List.set_cons_succ]
  refine RW.done (by rfl) ?_
  simp only [List.drop_succ_cons, List.drop_zero, List.drop_nil]
  refine LW.q rfl (Qt.nilCheck rfl) ?_
  refine LW.q rfl (Qt.fieldAddr (off := 1) (by kernel_rfl) rfl) ?_
  refine LW.e0 rfl (Ef.store1 (by kernel_rfl) rfl rfl rfl (by first | (simp; done) | (simp; omega)) ?_)
  try simp only [List.set_cons_zero, List.set_cons_succ]
  refine LW.done ?_
  refine T.seq ?_
  refine T.region ?_
  refine LW.q rfl (Qt.move rfl) ?_
  refine LW.q rfl (Qt.move rfl) ?_
  refine LW.q rfl (Qt.nilCheck rfl) ?_
  refine LW.q rfl (Qt.fieldAddr (off := 2) (by kernel_rfl) rfl) ?_
  first | refine LW.q rfl (Qt.load (by kernel_rfl) rfl rfl) ?_ | refine LW.q rfl (Qt.load (by kernel_rfl) rfl (map_at _ _ _ (by omega))) ?_ | refine LW.q rfl (Qt.load (by kernel_rfl) rfl (flat_cell0 _ _ _ (by intros; rfl) _ (by omega) (by rfl))) ?_ | refine LW.q rfl (Qt.load (by kernel_rfl) rfl (flat_cell _ _ _ (by intros; rfl) _ _ (by omega) (by rfl))) ?_ | refine LW.q rfl (Qt.load (by kernel_rfl) rfl (bytes_at _ _ (by omega))) ?_
  refine LW.q rfl (Qt.move rfl) ?_
  refine LW.q rfl (Qt.add (r := ((i + 1 : Nat) : Int)) rfl rfl (by rw [wr64 (by omega) (by omega)]; omega)) ?_
  refine LW.q rfl (Qt.move rfl) ?_
  refine LW.q rfl (Qt.add (r := ((i + 1 + 1 : Nat) : Int)) rfl rfl (by rw [wr64 (by omega) (by omega)]; omega)) ?_
  refine LW.e rfl (Ef.call (Lb.deleteN B x.ca ps.length x.cc (i + 1) (ps.map pV) (by simp) (by omega) (by omega) one_pV) Try.func93 rfl rfl rfl ?_)
  rintro _ _ ⟨rfl, rfl⟩
  try simp only [List.cons_append, List.nil_append]
  refine LW.q rfl (Qt.nilCheck rfl) ?_
  refine LW.q rfl (Qt.fieldAddr (off := 2) (by kernel_rfl) rfl) ?_
  refine LW.e0 rfl (Ef.store1 (by kernel_rfl) rfl rfl rfl (by first | (simp; done) | (simp; omega)) ?_)
  try simp only [List.set_cons_zero, List.set_cons_succ]
  refine LW.done ?_
  refine T.seq ?_
  refine T.region ?_
  refine LW.q rfl (Qt.move rfl) ?_
  refine LW.q rfl (Qt.assign rfl) ?_
  refine LW.done ?_
  refine T.ret ?_
  exact ⟨.inl rfl, _, _, res [_] rfl ⟨rvT rfl, trivial⟩, ⟨⟨x.p, x.kv.eraseIdx i, x.ka, x.kc, x.va, x.vc, x.ca, x.cc⟩, ⟨a.p, a.kv ++ s :: b.kv, p5, c5, p7, c7, p8, c8⟩, rfl, rfl, rfl, rfl, rfl, rfl⟩, (fun k K => merge_end (s := s) (x := x) (a := a) (b := b) hil hpl (p5 := p5) (p7 := p7) (p8 := p8) (c5 := c5) (c7 := c7) (c8 := c8) (Sub.any k K))⟩
end Go.Proofs.Ytefognjcognknaa

/- btree: fill, what it comes to. Conditions: none. -/
set_option linter.unusedSimpArgs false
set_option linter.unusedVariables false
namespace Go.Proofs.Ytefognjcognknaa
open Go.RowKit
/-! a cell of a block -/
def cellA (g o : Nat) (v : Value) : Assn := fun h => ∃ C t fr, h g = some (.cells C t fr) ∧ C[o]? = some v
class CellIn (C : List Value) (o : Nat) (v : outParam Value) : Prop where
  at' : C[o]? = some v
instance (v : Value) (C : List Value) : CellIn (v :: C) 0 v := ⟨rfl⟩
instance (u v : Value) (C : List Value) (o : Nat) [k : CellIn C o v] : CellIn (u :: C) (o + 1) v := ⟨by simpa using k.at'⟩
theorem CellIn.cellTake {g o t : Nat} {v : Value} {C : List Value} {l : List Assn} [k : CellIn C o v] {h : Piece} (H : Has (blk g C t :: l) h) : Has (cellA g o v :: l) h := Has.weaken (fun _ e => ⟨C.toArray, t, (0, 0), e, by simpa using k.at'⟩) H
instance (priority := low) (g o t : Nat) (v : Value) (C : List Value) (l : List Assn) [k : CellIn C o v] : TakeA (cellA g o v) (blk g C t :: l) l := ⟨fun _ H => k.cellTake H⟩
class CF (g o : Nat) (S : List Assn) (v : outParam Value) : Prop where
  find : ∀ h, Has S h → ∃ C t fr, h g = some (.cells C t fr) ∧ C[o]? = some v
instance (g o : Nat) (v : Value) (S : List Assn) : CF g o (cellA g o v :: S) v := ⟨fun _ ⟨_, _, _, a, _, ⟨C, t, fr, e, e2⟩, _⟩ => ⟨C, t, fr, a.p _ _ e, e2⟩⟩
instance (g o : Nat) (v : Value) (A : Assn) (S : List Assn) [k : CF g o S v] : CF g o (A :: S) v := ⟨fun _ H => k.find _ H.tail⟩
section
variable {P : Program} {B : Base} {n : Nat} {S r : List Assn} {f : Fr}
variable {d : Option Tmp} {ty : TypeId} {pos : String} {af : Array Edge} {gd : Option (Nat × Bool)}
theorem Qt.loadC {t g o : Nat} {x : Operand} {v v' : Value} (h1 : oneB P t = true) (hx : ev n f x = some (.pointer (some ⟨g, o, none⟩))) [k : CF g o S v'] (hv : v' = v) : Qt P B n S ⟨d, .load t x, ty, pos, af, gd⟩ f v := Qt.loadW h1 hx fun w ho => by
  subst hv
  obtain ⟨q, _, hl, H⟩ := ho.has
  obtain ⟨C, t', fr, e, e2⟩ := k.find _ H
  have e3 := hl.p _ _ e
  have : w.heap[g]? = some (.cells C t' fr) := e3
  simp [World.cell?, this, e2]
end
/-! pure -/
theorem kids_set2 {h : Nat} {x x' : Nd} {M1 M2 : List (LT h)} {a b a' b' : LT h} {s e : KV} (hs : x.kv[M1.length]? = some s) (hx : x'.kv = x.kv.set M1.length e) (ht : toL h a' ++ e :: toL h b' = toL h a ++ s :: toL h b) :
    toL (h + 1) (LT.mk (h + 1) x' (M1 ++ a' :: b' :: M2)) = toL (h + 1) (LT.mk (h + 1) x (M1 ++ a :: b :: M2)) := by
  have hl := (List.getElem?_eq_some_iff.1 hs).1
  show inter ((M1 ++ a' :: b' :: M2).map (toL h)) x'.kv = inter ((M1 ++ a :: b :: M2).map (toL h)) x.kv
  rw [hx, set_at hs]
  conv => rhs; rw [cut_at hs]
  rw [List.map_append, List.map_cons, List.map_cons, List.map_append, List.map_cons, List.map_cons]
  rw [inter_mid (by rw [List.length_map, List.length_take]; omega), inter_mid (by rw [List.length_map, List.length_take]; omega), ht]
theorem kids_merge2 {h : Nat} {x x' : Nd} {M1 M2 : List (LT h)} {a b c : LT h} {s : KV} (hs : x.kv[M1.length]? = some s) (hx : x'.kv = x.kv.eraseIdx M1.length) (ht : toL h c = toL h a ++ s :: toL h b) :
    toL (h + 1) (LT.mk (h + 1) x' (M1 ++ c :: M2)) = toL (h + 1) (LT.mk (h + 1) x (M1 ++ a :: b :: M2)) := by
  have hl := (List.getElem?_eq_some_iff.1 hs).1
  show inter ((M1 ++ c :: M2).map (toL h)) x'.kv = inter ((M1 ++ a :: b :: M2).map (toL h)) x.kv
  rw [hx, List.eraseIdx_eq_take_drop_succ]
  conv => rhs; rw [cut_at hs]
  rw [List.map_append, List.map_cons, List.map_append, List.map_cons, List.map_cons, ht]
  rw [inter_mid (by rw [List.length_map, List.length_take]; omega)]
theorem okK {o lo h : Nat} {x : Nd} {ks : List (LT h)} : okN o lo (h + 1) (LT.mk (h + 1) x ks) ↔ x.kv.length ≤ 2 * o - 1 ∧ lo ≤ x.kv.length ∧ ks.length = x.kv.length + 1 ∧ ∀ k ∈ ks, okT o h false k := by
  constructor
  · intro hk
    exact ⟨hk.1, hk.2.1, hk.2.2.1.resolve_left (by omega), hk.2.2.2⟩
  · intro hk
    exact ⟨hk.1, hk.2.1, .inr hk.2.2.1, hk.2.2.2⟩
/-- What fill leaves and tells. -/
def fillR (g o r cnt h : Nat) (x : Nd) (L1 : List (LT h)) (q : LT h) (L2 : List (LT h)) (u : Value) (l : List Assn) : Prop := ∃ (x' : Nd) (L1' : List (LT h)) (q' : LT h) (L2' : List (LT h)), x'.p = x.p ∧ x.kv.length ≤ x'.kv.length + 1 ∧ okN o 0 (h + 1) (LT.mk (h + 1) x' (L1' ++ q' :: L2')) ∧ toL (h + 1) (LT.mk (h + 1) x' (L1' ++ q' :: L2')) = toL (h + 1) (LT.mk (h + 1) x (L1 ++ q :: L2)) ∧ o ≤ (LT.nd h q').kv.length ∧ (∀ z ∈ toL h q, z ∈ toL h q') ∧ u = pV (LT.nd h q').p ∧ l = [trB g o r cnt, treeA (h + 1) (LT.mk (h + 1) x' (L1' ++ q' :: L2'))]
/-- A key from the left. -/
theorem fill_left {g o r cnt h : Nat} {x x' y z : Nd} {M1 M2 : List (LT h)} {a b : LT h} {s e : KV} {av : List KV} (hok : okN o 0 (h + 1) (LT.mk (h + 1) x (M1 ++ a :: b :: M2))) (hs : x.kv[M1.length]? = some s) (hx : x'.kv = x.kv.set M1.length e) (hp : x'.p = x.p) (ha : (LT.nd h a).kv = av ++ [e]) (hy : y.kv = av) (hz : z.kv = s :: (LT.nd h b).kv) (hb : (LT.nd h b).kv.length = o - 1) (hal : o ≤ (LT.nd h a).kv.length) (ho : 2 ≤ o) :
    fillR g o r cnt h x (M1 ++ [a]) b M2 (pV z.p) [trB g o r cnt, treeA (h + 1) (LT.mk (h + 1) x' (M1 ++ LT.mk h y ((LT.ksL h a).take (LT.nd h a).kv.length) :: LT.mk h z ((LT.ksL h a).drop (LT.nd h a).kv.length ++ LT.ksL h b) :: M2))] := by
  have hk := okK.1 hok
  have hka := okN_false.1 (hk.2.2.2 a (by simp))
  have hkb := okN_false.1 (hk.2.2.2 b (by simp))
  have hov := toL_over (h := h) (l := a) (r := b) (y := y) (z := z) (s := s) (e := e) hka.2.2.1 (by rw [ha, hy]) hz
  have e1 : M1 ++ LT.mk h y ((LT.ksL h a).take (LT.nd h a).kv.length) :: LT.mk h z ((LT.ksL h a).drop (LT.nd h a).kv.length ++ LT.ksL h b) :: M2 = (M1 ++ [LT.mk h y ((LT.ksL h a).take (LT.nd h a).kv.length)]) ++ LT.mk h z ((LT.ksL h a).drop (LT.nd h a).kv.length ++ LT.ksL h b) :: M2 := by simp
  have e2 : (M1 ++ [a]) ++ b :: M2 = M1 ++ a :: b :: M2 := by simp
  have hl : (LT.nd h a).kv.length = av.length + 1 := by rw [ha]; simp
  have h63 := hka.1
  refine ⟨x', M1 ++ [LT.mk h y ((LT.ksL h a).take (LT.nd h a).kv.length)], LT.mk h z ((LT.ksL h a).drop (LT.nd h a).kv.length ++ LT.ksL h b), M2, hp, by rw [hx]; simp, ?_, ?_, ?_, ?_, ?_, by rw [e1]⟩
  · rw [← e1]
    refine okK.2 ⟨by rw [hx]; simpa using hk.1, Nat.zero_le _, ?_, fun k hm => ?_⟩
    · rw [hx, List.length_set, ← hk.2.2.1]; simp
    · rcases List.mem_append.1 hm with hm | hm
      · exact hk.2.2.2 k (by simp [hm])
      · rcases List.mem_cons.1 hm with rfl | hm
        · refine okN_false.2 (okN_mk.2 ⟨by rw [hy]; omega, by rw [hy]; omega, ?_, fun k hk' => hka.2.2.2 k (List.mem_of_mem_take hk')⟩)
          refine hka.2.2.1.imp id fun e' => ?_
          rw [List.length_take, hy]; omega
        · rcases List.mem_cons.1 hm with rfl | hm
          · refine okN_false.2 (okN_mk.2 ⟨by rw [hz]; simp; omega, by rw [hz]; simp; omega, ?_, fun k hk' => ?_⟩)
            · rcases hka.2.2.1 with e' | e'
              · exact .inl e'
              · rcases hkb.2.2.1 with e'' | e''
                · exact .inl e''
                · refine .inr ?_
                  rw [List.length_append, List.length_drop, hz, List.length_cons]; omega
            · rcases List.mem_append.1 hk' with hk' | hk'
              · exact hka.2.2.2 k (List.mem_of_mem_drop hk')
              · exact hkb.2.2.2 k hk'
          · exact hk.2.2.2 k (by simp [hm])
  · rw [← e1, e2]
    exact kids_set2 hs hx hov
  · rw [LT.nd_mk, hz, List.length_cons]; omega
  · intro w hw
    have h1 : w ∈ toL h a ++ s :: toL h b := List.mem_append_right _ (List.mem_cons_of_mem _ hw)
    rw [toL_mk, hz]
    cases h with
    | zero => exact List.mem_cons_of_mem _ hw
    | succ h =>
      have e' := hka.2.2.1.resolve_left (by omega)
      have e'' := hkb.2.2.1.resolve_left (by omega)
      have hd : (LT.ksL (h + 1) a).drop (LT.nd (h + 1) a).kv.length = [(LT.ksL (h + 1) a)[(LT.nd (h + 1) a).kv.length]'(by omega)] := by
        rw [List.drop_eq_getElem_cons (by omega), List.drop_of_length_le (by omega)]
      rw [hd]
      show w ∈ inter (([_] ++ LT.ksL (h + 1) b).map (LK.l (h + 1))) (s :: (LT.nd (h + 1) b).kv)
      rw [List.map_append]
      have hc := inter_cut (A := [(LT.ksL (h + 1) a)[(LT.nd (h + 1) a).kv.length]'(by omega)].map (LK.l (h + 1))) (vs := []) (v := s) (Bs := (LT.ksL (h + 1) b).map (LK.l (h + 1))) (ws := (LT.nd (h + 1) b).kv) (by simp)
      rw [List.nil_append] at hc
      rw [hc]
      exact List.mem_append_right _ (List.mem_cons_of_mem _ (by rw [toL_eq] at hw; exact hw))
  · rw [LT.nd_mk]
/-- A key from the right. -/
theorem fill_right {g o r cnt h : Nat} {x x' y z : Nd} {M1 M2 : List (LT h)} {a b : LT h} {s e : KV} {bv : List KV} (hok : okN o 0 (h + 1) (LT.mk (h + 1) x (M1 ++ a :: b :: M2))) (hs : x.kv[M1.length]? = some s) (hx : x'.kv = x.kv.set M1.length e) (hp : x'.p = x.p) (hb : (LT.nd h b).kv = e :: bv) (hy : y.kv = (LT.nd h a).kv ++ [s]) (hz : z.kv = bv) (ha : (LT.nd h a).kv.length = o - 1) (hbl : o ≤ (LT.nd h b).kv.length) (ho : 2 ≤ o) :
    fillR g o r cnt h x M1 a (b :: M2) (pV y.p) [trB g o r cnt, treeA (h + 1) (LT.mk (h + 1) x' (M1 ++ LT.mk h y (LT.ksL h a ++ (LT.ksL h b).take 1) :: LT.mk h z ((LT.ksL h b).drop 1) :: M2))] := by
  have hk := okK.1 hok
  have hka := okN_false.1 (hk.2.2.2 a (by simp))
  have hkb := okN_false.1 (hk.2.2.2 b (by simp))
  have hov := toL_back (h := h) (l := a) (r := b) (y := y) (z := z) (s := s) (e := e) hka.2.2.1 hkb.2.2.1 hy (by rw [hb, hz])
  have hl : (LT.nd h b).kv.length = bv.length + 1 := by rw [hb]; simp
  have h63 := hkb.1
  refine ⟨x', M1, LT.mk h y (LT.ksL h a ++ (LT.ksL h b).take 1), LT.mk h z ((LT.ksL h b).drop 1) :: M2, hp, by rw [hx]; simp, ?_, ?_, ?_, ?_, ?_, rfl⟩
  · refine okK.2 ⟨by rw [hx]; simpa using hk.1, Nat.zero_le _, ?_, fun k hm => ?_⟩
    · rw [hx, List.length_set, ← hk.2.2.1]; simp
    · rcases List.mem_append.1 hm with hm | hm
      · exact hk.2.2.2 k (by simp [hm])
      · rcases List.mem_cons.1 hm with rfl | hm
        · refine okN_false.2 (okN_mk.2 ⟨by rw [hy]; simp; omega, by rw [hy]; simp; omega, ?_, fun k hk' => ?_⟩)
          · rcases hka.2.2.1 with e' | e'
            · exact .inl e'
            · rcases hkb.2.2.1 with e'' | e''
              · exact .inl e''
              · refine .inr ?_
                rw [List.length_append, List.length_take, hy, List.length_append, List.length_singleton]; omega
          · rcases List.mem_append.1 hk' with hk' | hk'
            · exact hka.2.2.2 k hk'
            · exact hkb.2.2.2 k (List.mem_of_mem_take hk')
        · rcases List.mem_cons.1 hm with rfl | hm
          · refine okN_false.2 (okN_mk.2 ⟨by rw [hz]; omega, by rw [hz]; omega, ?_, fun k hk' => hkb.2.2.2 k (List.mem_of_mem_drop hk')⟩)
            refine hkb.2.2.1.imp id fun e' => ?_
            rw [List.length_drop, hz]; omega
          · exact hk.2.2.2 k (by simp [hm])
  · exact kids_set2 hs hx hov
  · rw [LT.nd_mk, hy, List.length_append, List.length_singleton]; omega
  · intro w hw
    rw [toL_mk, hy]
    cases h with
    | zero => exact List.mem_append_left _ hw
    | succ h =>
      have e' := hka.2.2.1.resolve_left (by omega)
      show w ∈ inter ((LT.ksL (h + 1) a ++ (LT.ksL (h + 1) b).take 1).map (LK.l (h + 1))) ((LT.nd (h + 1) a).kv ++ [s])
      rw [List.map_append, inter_cut (by rw [List.length_map]; exact e')]
      exact List.mem_append_left _ (by rw [toL_eq] at hw; exact hw)
  · rw [LT.nd_mk]
theorem fill_merge {g o r cnt h lo : Nat} {x x' : Nd} {M1 M2 L1 L2 : List (LT h)} {a b c q : LT h} {s : KV} (hok : okN o lo (h + 1) (LT.mk (h + 1) x (M1 ++ a :: b :: M2))) (hs : x.kv[M1.length]? = some s) (hx : x'.kv = x.kv.eraseIdx M1.length) (hp : x'.p = x.p) (hc : okT o h false c) (hcl : (LT.nd h c).kv.length = 2 * o - 1) (ht : toL h c = toL h a ++ s :: toL h b) (ho : 2 ≤ o) (e : L1 ++ q :: L2 = M1 ++ a :: b :: M2) (hq : q = a ∨ q = b) :
    fillR g o r cnt h x L1 q L2 (pV (LT.nd h c).p) [trB g o r cnt, treeA (h + 1) (LT.mk (h + 1) x' (M1 ++ c :: M2))] := by
  have hk := okK.1 hok
  have hl := (List.getElem?_eq_some_iff.1 hs).1
  have hxl : x'.kv.length = x.kv.length - 1 := by rw [hx, List.length_eraseIdx_of_lt hl]
  have hkm := hk.1
  refine ⟨x', M1, c, M2, hp, by omega, ?_, ?_, by omega, ?_, rfl, rfl⟩
  · refine okK.2 ⟨by omega, Nat.zero_le _, ?_, fun k hm => ?_⟩
    · have := hk.2.2.1
      simp at this ⊢; omega
    · rcases List.mem_append.1 hm with hm | hm
      · exact hk.2.2.2 k (by simp [hm])
      · rcases List.mem_cons.1 hm with rfl | hm
        · exact hc
        · exact hk.2.2.2 k (by simp [hm])
  · rw [e]; exact kids_merge2 hs hx ht
  · intro z hz
    rw [ht]
    rcases hq with rfl | rfl
    · exact List.mem_append_left _ hz
    · exact List.mem_append_right _ (List.mem_cons_of_mem _ hz)
end Go.Proofs.Ytefognjcognknaa

/- btree: merge over trees. Conditions: sizes. -/
set_option linter.unusedSimpArgs false
set_option linter.unusedVariables false
namespace Go.Proofs.Ytefognjcognknaa
open Go.RowKit
theorem erase_mid {α : Type} {a b : List α} {x y : α} : (a ++ x :: y :: b).eraseIdx (a.length + 1) = a ++ x :: b := by
  rw [List.eraseIdx_eq_take_drop_succ]
  have e : a ++ x :: y :: b = (a ++ [x]) ++ y :: b := by simp
  rw [e, List.take_left' (by simp)]
  have e2 : (a ++ [x]) ++ y :: b = (a ++ [x, y]) ++ b := by simp
  rw [e2, List.drop_left' (by simp)]
  simp
theorem Bt.mergeT (B : Base) (g o lo h : Nat) (x : Nd) (M1 M2 : List (LT h)) (a b : LT h) (ho : 2 ≤ o) (ho2 : o ≤ 64) (hok : okN o lo (h + 1) (LT.mk (h + 1) x (M1 ++ a :: b :: M2))) (ha : (LT.nd h a).kv.length = o - 1) (hb : (LT.nd h b).kv.length = o - 1) :
    Fn Try.prog B 81 #[pV g, pV x.p, .int .i64 M1.length] [treeA (h + 1) (LT.mk (h + 1) x (M1 ++ a :: b :: M2))] (fun u l => ∃ (x' : Nd) (c : LT h) (s : KV), x'.p = x.p ∧ x.kv[M1.length]? = some s ∧ x'.kv = x.kv.eraseIdx M1.length ∧ okT o h false c ∧ (LT.nd h c).kv.length = 2 * o - 1 ∧ toL h c = toL h a ++ s :: toL h b ∧ u = pV (LT.nd h c).p ∧ l = [treeA (h + 1) (LT.mk (h + 1) x' (M1 ++ c :: M2))]) := by
  have hk := okK.1 hok
  have hka := okN_false.1 (hk.2.2.2 a (by simp))
  have hkb := okN_false.1 (hk.2.2.2 b (by simp))
  have hlen := hk.2.2.1
  have hml : M1.length < x.kv.length := by simp at hlen; omega
  obtain ⟨s, hs⟩ : ∃ s, x.kv[M1.length]? = some s := ⟨_, List.getElem?_eq_getElem hml⟩
  have hap : ((LT.ksL h a).map fun k => (LK.nd h k).p).length < 2 ^ 39 := by
    rw [List.length_map]
    cases h with
    | zero => cases hq : LT.ksL 0 a with
      | nil => simp
      | cons e _ => exact e.elim
    | succ h => have := hka.2.2.1.resolve_left (by omega); omega
  have hbp : ((LT.ksL h b).map fun k => (LK.nd h k).p).length < 2 ^ 39 := by
    rw [List.length_map]
    cases h with
    | zero => cases hq : LT.ksL 0 b with
      | nil => simp
      | cons e _ => exact e.elim
    | succ h => have := hkb.2.2.1.resolve_left (by omega); omega
  refine Fn.conv (F' := [sepL ((LT.ksL h a).map (LK.a h)), sepL ((LT.ksL h b).map (LK.a h)), sepL (M1.map (treeA h)), sepL (M2.map (treeA h))]) (Bt.merge B g x (LT.nd h a) (LT.nd h b) ((M1 ++ a :: b :: M2).map fun k => (LT.nd h k).p) ((LT.ksL h a).map fun k => (LK.nd h k).p) ((LT.ksL h b).map fun k => (LK.nd h k).p) M1.length s hs (by rw [List.length_map]; exact hlen) (by simp) (by simp) (by omega) (by omega) (by omega) hap hbp) ?_ ?_
  · intro k K
    have K1 := Has.open2 K
    simp only [nodeL, List.cons_append, List.nil_append]
    exact Sub.any k K1
  · rintro v l' ⟨x', a', e1, e2, e3, e4, rfl, rfl⟩
    have hkl : h = 0 ∨ (LT.ksL h a ++ LT.ksL h b).length = a'.kv.length + 1 := by
      rcases hka.2.2.1 with e | e
      · exact .inl e
      · rcases hkb.2.2.1 with e' | e'
        · exact .inl e'
        · exact .inr (by rw [List.length_append, e4, List.length_append, List.length_cons]; omega)
    refine ⟨_, fun k K => ?_, x', LT.mk h a' (LT.ksL h a ++ LT.ksL h b), s, e1, hs, e3, ?_, ?_, toL_merge hka.2.2.1 e4, ?_, rfl⟩
    · have eM : ((M1 ++ a :: b :: M2).map fun k => (LT.nd h k).p).eraseIdx (M1.length + 1) = M1.map (fun k => (LT.nd h k).p) ++ a'.p :: M2.map fun k => (LT.nd h k).p := by
        rw [List.map_append, List.map_cons, List.map_cons, e2]
        have := erase_mid (a := M1.map fun k => (LT.nd h k).p) (b := M2.map fun k => (LT.nd h k).p) (x := (LT.nd h a).p) (y := (LT.nd h b).p)
        rw [List.length_map] at this
        exact this
      rw [eM, ← List.map_append] at K
      refine Has.close1 ?_
      have K1 : Has (nodeL x' (M1.map (fun k => (LT.nd h k).p) ++ a'.p :: M2.map fun k => (LT.nd h k).p) ++ (nodeL a' ((LT.ksL h a ++ LT.ksL h b).map fun k => (LK.nd h k).p) ++ (sepL ((LT.ksL h a).map (LK.a h)) :: sepL ((LT.ksL h b).map (LK.a h)) :: [sepL (M1.map (treeA h)), sepL (M2.map (treeA h))]))) k := by
        simp only [nodeL, List.cons_append, List.nil_append] at K ⊢
        exact Sub.any k K
      have K2 := Has.cons_imp (fun _ K => Has.cons_imp (fun _ K => Has.cons_imp (fun _ K => Has.cons_imp (fun _ K => Has.cons_imp (fun _ K => Has.cons_imp (fun _ K => Has.cons_imp (fun _ K => Has.cons_imp (fun _ K => Has.sep_in K) K) K) K) K) K) K) K) K1
      rw [← List.map_append] at K2
      exact Sub.any k K2
    · refine okN_false.2 (okN_mk.2 ⟨by rw [e4, List.length_append, List.length_cons]; omega, by rw [e4, List.length_append, List.length_cons]; omega, hkl, fun k hm => ?_⟩)
      rcases List.mem_append.1 hm with hm | hm
      · exact hka.2.2.2 k hm
      · exact hkb.2.2.2 k hm
    · rw [LT.nd_mk, e4, List.length_append, List.length_cons]; omega
    · rw [LT.nd_mk, e2]
end Go.Proofs.Ytefognjcognknaa
