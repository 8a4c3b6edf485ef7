/- The law HeapLost of annalslaw08 holds (its card): for all arguments of bulk at most 1048576 the call returns true and the arguments read as before. Condition: the bound of the second form. -/
import Derived.Test.YtiooeiapplnafaaGreatDoorZHfBase16
set_option linter.unusedSimpArgs false
set_option linter.unusedVariables false
/- The statement HeapFits. Conditions: that what is handed in can be read; sizes. -/
namespace Go.Proofs.YtiooeiapplnafaaGreatDoor
open Go.RowKit
abbrev ridC (p : Int × Int) : List Value := [.int .i64 p.1, .int .i64 p.2]
abbrev ridR (p : Option Addr) (n c : Nat) (l : List (Int × Int)) : Assn := row (.slice p n c) 39 2 n (l.flatMap ridC)
theorem Hp.elemRid : ElemOk Tryz.prog 56 39 2 16 := .mk' (.agg #[.int .i64 0, .int .i64 0]) Tryz.underlying56 (by kernel_rfl) rfl (by omega)
structure Adding (h : HR) (c rm : Nat) (L : List (Int × Int)) : Prop where
  r : RInv h
  pages : h.pages = c
  room : h.room = rm
  act : h.act = [1]
  cm : h.cm = []
  last : h.last = 1
  at_ : AtL h (fun x => x = 0) L
theorem Adding.add {h : HR} {c rm : Nat} {L : List (Int × Int)} (a : Adding h c rm L) (hc : c ≤ 4096) (d : List UInt8) : Adding (addR' h 1 d).1 c rm L ∧ ((addR' h 1 d).2.2.2 = 0 → Adding (addR' h 1 d).1 c rm (L ++ [((addR' h 1 d).2.1, (addR' h 1 d).2.2.1)])) := by
  have hr := a.r.add (by rw [a.pages]; exact hc) (by rw [a.last]; decide) 1 d
  rcases add_cases h 1 d with ⟨h1, h2⟩ | ⟨q, h1, h2, h3, h4, h5⟩
  · exact ⟨by rw [h2]; exact a, fun e => absurd e h1⟩
  · rw [h5] at hr ⊢
    exact ⟨⟨hr, a.pages, a.room, a.act, by show (if (1 : Int) = 3 then h.cm ++ [((1 : Int), (0 : Int))] else h.cm) = []; rw [if_neg (by decide)]; exact a.cm, a.last, a.at_.app write_add_vs⟩, fun _ => ⟨hr, a.pages, a.room, a.act, by show (if (1 : Int) = 3 then h.cm ++ [((1 : Int), (0 : Int))] else h.cm) = []; rw [if_neg (by decide)]; exact a.cm, a.last, a.at_.snoc a.r rfl hr rfl⟩⟩
structure Ending (h : HR) (c rm : Nat) (t : Int) (ok : Int → Prop) (L : List (Int × Int)) : Prop where
  r : RInv h
  pages : h.pages = c
  room : h.room = rm
  act : h.act = [t]
  cm : h.cm = [(1, 1)]
  last : h.last = t
  at_ : AtL h ok L
theorem Ending.end_ {h : HR} {c rm : Nat} {t : Int} {ok : Int → Prop} {x : Int × Int} {L : List (Int × Int)} (a : Ending h c rm t ok (x :: L)) (hc : c ≤ 4096) (ht : 1 < t ∧ t < 2 ^ 62) (ho : ∀ z, ok z → z ≠ t ∧ z ≠ 1) (hu : h.used + 20 ≤ rm) : ∃ i, findV h.vs x.1 x.2 = some i ∧ endR h t x.1 x.2 = (writeR h (endE t x.1 x.2), 0) ∧ Ending (writeR h (endE t x.1 x.2)) c rm t ok L := by
  obtain ⟨i, v, h1, h2, h3, h4⟩ := a.at_.2 x (by simp)
  obtain ⟨o1, o2⟩ := ho _ h4
  have hac : isAct h t = true := by rw [isAct_iff, a.act]; simp
  have hcm : ∀ z, isCm h z = true ↔ z = 1 := fun z => by unfold isCm; rw [a.cm]; simp
  have he := hEnd_ok (h := h) (t := t) (p := x.1) (s := x.2) hac (v := v) (by rw [h1]; exact h2) (by
      rw [h3]
      rintro (⟨_, e⟩ | e | e)
      · have := (hcm 1).2 rfl; rw [this] at e; cases e
      · exact o1 e
      · exact o2 ((hcm _).1 e)) (by
      unfold isAct; rw [a.act]; simpa using o1) (by rw [a.room]; exact hu)
  have hr := a.r.end_ (by rw [a.pages]; exact hc) (by rw [a.last]; exact ht.2) t x.1 x.2
  rw [he] at hr
  refine ⟨i, h1, he, hr, a.pages, a.room, a.act, ?_, a.last, a.at_.ended⟩
  show (if (2 : Int) = 3 then h.cm ++ [(t, (0 : Int))] else h.cm) = _
  rw [if_neg (by decide)]; exact a.cm
theorem Adding.commit {h : HR} {c rm : Nat} {L : List (Int × Int)} (a : Adding h c rm L) (ok : Int → Prop) (h0 : ok 0) : (commitR h 1 1 = (h, 3) ∧ (rm : Int) < h.used + 25) ∨ ((commitR h 1 1).2 = 0 ∧ h.used + 25 ≤ rm ∧ (commitR h 1 1).1.used = h.used + 25 ∧ (commitR h 1 1).1.vs = h.vs ∧ (commitR h 1 1).1.act = [] ∧ (commitR h 1 1).1.cm = [(1, 1)] ∧ Ending (beginR (commitR h 1 1).1) c rm 2 ok L) := by
  have hac : isAct h 1 = true := by rw [isAct_iff, a.act]; simp
  have hb : badStamp h 1 = false := by unfold badStamp; rw [a.cm]; rfl
  by_cases hu : (rm : Int) < h.used + 25
  · refine .inl ⟨?_, hu⟩
    unfold commitR
    rw [if_pos hac, if_neg (by rw [hb]; simp), if_pos (by rw [a.room]; exact hu)]
  · right
    have he := hCm_ok (h := h) (t := 1) (s := 1) hac hb (by rw [a.room]; omega)
    have hr := a.r.commit (by rw [a.last]; decide) 1 1
    rw [he] at hr ⊢
    have hc : (writeR (withoutR h 1) (cmE 1 1)).cm = [(1, 1)] := by show (if (3 : Int) = 3 then h.cm ++ [((1 : Int), (1 : Int))] else h.cm) = _; rw [if_pos rfl, a.cm]; rfl
    have hA : (writeR (withoutR h 1) (cmE 1 1)).act = [] := by show h.act.filter _ = []; rw [a.act]; rfl
    refine ⟨rfl, by omega, ?_, rfl, hA, hc, ⟨hr.begin, a.pages, a.room, ?_, hc, ?_, ?_⟩⟩
    · show h.used + (enSz (cmE 1 1) : Int) = h.used + 25
      rw [sz3]; rfl
    · show (writeR (withoutR h 1) (cmE 1 1)).act ++ [h.last + 1] = [2]
      rw [hA, a.last]; rfl
    · show h.last + 1 = 2; rw [a.last]; rfl
    · refine ⟨a.at_.1, fun p hp => ?_⟩
      obtain ⟨i, v, h1, h2, h3, h4⟩ := a.at_.2 p hp
      exact ⟨i, v, h1, h2, h3, by rw [h4]; exact h0⟩
theorem fitsR_iff {h : HR} (r : RInv h) (ends : Int) (sizes : List Int) : fitsR h ends sizes = true ↔ 0 ≤ ends ∧ ends ≤ (h.room : Int) - h.used - 25 ∧ fitsP (roomsL h) ((h.room : Int) - h.used - 25 - 20 * ends) sizes = true := by
  rw [fits_eq ends sizes (by have := r.ok.used; omega)]
  simp only [Bool.and_eq_true, Bool.not_eq_true', Bool.or_eq_false_iff, decide_eq_false_iff_not]
  constructor
  · rintro ⟨⟨a, b⟩, c⟩; exact ⟨by omega, by omega, c⟩
  · rintro ⟨a, b, c⟩; exact ⟨⟨by omega, by omega⟩, c⟩
end Go.Proofs.YtiooeiapplnafaaGreatDoor

/- The statement HeapLost: the lists. Conditions: that the heap is in order. -/
namespace Go.Proofs.YtiooeiapplnafaaGreatDoor
open Go.RowKit
theorem sure_write {h : HR} {e : En} (s : OkStep h e) (hk : e.kind ≠ 3) : sureR (writeR h e) = sureR h := by
  have s2 : OkStep { h with act := [] } e := s.congr rfl rfl rfl rfl rfl
  exact all_write s2 rfl hk
theorem sure_add {h : HR} (r : RInv h) (hp : h.pages ≤ 4096) (hl : h.last < 2 ^ 62) (t : Int) (d : List UInt8) : sureR (addR' h t d).1 = sureR h := by
  rcases add_cases h t d with ⟨_, e⟩ | ⟨q, h1, h2, h3, h4, h5⟩
  · rw [e]
  · rw [h5]
    obtain ⟨a, b, _⟩ := roomy_some h3
    exact sure_write (r.addStep hp hl h1 h2 a b h4) (show (1 : Int) ≠ 3 by decide)
theorem sure_end {h : HR} (r : RInv h) (hp : h.pages ≤ 4096) (hl : h.last < 2 ^ 62) (t p s : Int) : sureR (endR h t p s).1 = sureR h := by
  rcases end_cases h t p s with ⟨_, e⟩ | ⟨i, v, h1, h2, h3, h4, h5, h6⟩
  · rw [e]
  · rw [h6]
    exact sure_write (r.endStep hp hl h1 h2 h3 h4 h5) (show (2 : Int) ≠ 3 by decide)
structure Losing (h : HR) (c rm : Nat) (A : List Ver) (act : List Int) : Prop where
  r : RInv h
  pages : h.pages = c
  room : h.room = rm
  act : h.act = act
  cm : h.cm = [(1, 1)]
  last : h.last = 2
  sure : sureR h = A
  vs : ∀ v ∈ h.vs, (v.beg = 1 ∧ (v.fin = 0 ∨ v.fin = 2)) ∨ v.beg = 2
theorem Losing.add {h : HR} {c rm : Nat} {A : List Ver} (a : Losing h c rm A [2]) (hc : c ≤ 4096) (d : List UInt8) : Losing (addR' h 2 d).1 c rm A [2] := by
  have hp : h.pages ≤ 4096 := by rw [a.pages]; exact hc
  have hl : h.last < 2 ^ 62 := by rw [a.last]; decide
  have hr := a.r.add hp hl 2 d
  have hs := sure_add a.r hp hl 2 d
  rcases add_cases h 2 d with ⟨_, e⟩ | ⟨q, h1, h2, h3, h4, h5⟩
  · rw [e]; exact a
  · rw [h5] at hr hs ⊢
    refine ⟨hr, a.pages, a.room, a.act, ?_, a.last, hs.trans a.sure, fun v hv => ?_⟩
    · show (if (1 : Int) = 3 then h.cm ++ [((2 : Int), (0 : Int))] else h.cm) = _; rw [if_neg (by decide)]; exact a.cm
    · rw [write_add_vs] at hv
      rcases List.mem_append.1 hv with hv | hv
      · exact a.vs v hv
      · simp at hv; subst hv; exact .inr rfl
theorem Losing.end_ {h : HR} {c rm : Nat} {A : List Ver} (a : Losing h c rm A [2]) (hc : c ≤ 4096) (p s : Int) : Losing (endR h 2 p s).1 c rm A [2] := by
  have hp : h.pages ≤ 4096 := by rw [a.pages]; exact hc
  have hl : h.last < 2 ^ 62 := by rw [a.last]; decide
  have hr := a.r.end_ hp hl 2 p s
  have hs := sure_end a.r hp hl 2 p s
  rcases end_cases h 2 p s with ⟨_, e⟩ | ⟨i, v, h1, h2, h3, h4, h5, h6⟩
  · rw [e]; exact a
  · rw [h6] at hr hs ⊢
    refine ⟨hr, a.pages, a.room, a.act, ?_, a.last, hs.trans a.sure, fun u hu => ?_⟩
    · show (if (2 : Int) = 3 then h.cm ++ [((2 : Int), (0 : Int))] else h.cm) = _; rw [if_neg (by decide)]; exact a.cm
    · rw [write_end_vs h2] at hu
      rcases mem_modify hu with hu | ⟨w, hw, rfl⟩
      · exact a.vs u hu
      · rcases a.vs w hw with ⟨e, _⟩ | e
        · exact .inl ⟨e, .inr rfl⟩
        · exact .inr e
theorem Losing.all {h : HR} {c rm : Nat} {A : List Ver} {act : List Int} (a : Losing h c rm A act) (ha : act = []) : allR h = A := by
  rw [← a.sure]
  unfold sureR
  rw [show ({ h with act := [] } : HR) = h by have := a.act; rw [ha] at this; cases h; simp_all]
theorem all_mem {h : HR} (r : RInv h) {x : Ver} (hx : x ∈ allR h) : ∃ (i : Nat) (v : Ver), findV h.vs x.page x.slot = some i ∧ h.vs[i]? = some v ∧ visV h v = some x ∧ v.page = x.page ∧ v.slot = x.slot ∧ v.beg = x.beg := by
  unfold allR at hx
  obtain ⟨q, hq, hx⟩ := List.mem_flatMap.1 hx
  obtain ⟨v, hv, hvx⟩ := List.mem_filterMap.1 hx
  have hv1 := mem_of_filt hv
  obtain ⟨i, hi⟩ := List.getElem?_of_mem hv1
  have hxe : v.page = x.page ∧ v.slot = x.slot ∧ v.beg = x.beg := by
    unfold visV at hvx
    split at hvx
    · cases hvx
    · split at hvx <;> (cases hvx; exact ⟨rfl, rfl, rfl⟩)
  obtain ⟨e1, e2, e3⟩ := hxe
  exact ⟨i, v, by rw [← e1, ← e2]; exact findV_of r.ok.slots hi, hi, hvx, e1, e2, e3⟩
theorem all_nodup {h : HR} (r : RInv h) : ((allR h).map fun x => ((x.page : Int), (x.slot : Int))).Nodup := by
  have key : ∀ q, List.Sublist (((pageV h.vs q).filterMap (visV h)).map fun x => ((x.page : Int), (x.slot : Int))) ((pageV h.vs q).map fun x => ((x.page : Int), (x.slot : Int))) := by
    intro q
    induction pageV h.vs q with
    | nil => simp
    | cons v l ih =>
      rw [List.filterMap_cons]
      cases hv : visV h v with
      | none => exact ih.trans (List.sublist_cons_self _ _)
      | some x =>
        have : x.page = v.page ∧ x.slot = v.slot := by
          unfold visV at hv
          split at hv
          · cases hv
          · split at hv <;> (cases hv; exact ⟨rfl, rfl⟩)
        simp only [List.map_cons, this.1, this.2]
        exact ih.cons_cons _
  have hpg : ∀ q, ((pageV h.vs q).map fun x => ((x.page : Int), (x.slot : Int))) = (List.range (pageV h.vs q).length).map fun (s : Nat) => ((q : Int), (s : Int)) := by
    intro q
    apply List.ext_getElem?
    intro j
    simp only [List.getElem?_map]
    by_cases hj : j < (pageV h.vs q).length
    · have h1 := slots_page r.ok.slots q j _ (List.getElem?_eq_getElem hj)
      rw [List.getElem?_eq_getElem hj, List.getElem?_range hj]
      simp [h1.1, h1.2]
    · rw [List.getElem?_eq_none (by omega), List.getElem?_eq_none (by simp; omega)]
      rfl
  unfold allR
  rw [List.map_flatMap]
  unfold List.flatMap
  rw [List.Nodup, List.pairwise_flatten]
  refine ⟨fun l hl => ?_, ?_⟩
  · obtain ⟨q, _, rfl⟩ := List.mem_map.1 hl
    refine List.Nodup.sublist (key q) ?_
    rw [hpg]
    rw [List.Nodup, List.pairwise_map]
    exact List.Pairwise.imp (fun {a b} hab e => hab (by injection e with _ e; omega)) List.nodup_range
  · rw [List.pairwise_map]
    refine List.Pairwise.imp ?_ (List.nodup_range (n := h.pages))
    intro a b hab x hx y hy e
    subst e
    have h1 := (key a).subset hx
    have h2 := (key b).subset hy
    rw [hpg] at h1 h2
    obtain ⟨_, _, e1⟩ := List.mem_map.1 h1
    obtain ⟨_, _, e2⟩ := List.mem_map.1 h2
    rw [← e1] at e2
    simp at e2
    exact hab (by omega)
end Go.Proofs.YtiooeiapplnafaaGreatDoor

/- The statement HeapLost, the walk. Conditions: that what is handed in can be read; sizes. -/
namespace Go.Proofs.YtiooeiapplnafaaGreatDoor
open Go.RowKit
abbrev plc (x : Ver) : Int × Int := ((x.page : Int), (x.slot : Int))
def AllOne (h : HR) : Prop := ∀ v ∈ h.vs, v.beg = 1 ∧ v.fin = 0
theorem AllOne.add {h : HR} (a : AllOne h) (d : List UInt8) : AllOne (addR' h 1 d).1 := by
  rcases add_cases h 1 d with ⟨_, e⟩ | ⟨q, _, _, _, _, h5⟩
  · rw [e]; exact a
  · rw [h5]
    intro v hv
    rw [write_add_vs] at hv
    rcases List.mem_append.1 hv with hv | hv
    · exact a v hv
    · simp at hv; subst hv; exact ⟨rfl, rfl⟩
theorem used_add {h : HR} (t : Int) (d : List UInt8) : ((addR' h t d).2.2.2 ≠ 0 ∧ (addR' h t d).1.used = h.used) ∨ ((addR' h t d).2.2.2 = 0 ∧ (addR' h t d).1.used ≤ h.used + 204) := by
  rcases add_cases h t d with ⟨e1, e⟩ | ⟨q, _, h2, _, _, h5⟩
  · exact .inl ⟨e1, by rw [e]⟩
  · exact .inr (by rw [h5]; exact ⟨rfl, by rw [write_add_used]; omega⟩)
theorem all_len {h : HR} (r : RepOk h) : (allR h).length ≤ 14 * h.pages := by
  unfold allR
  have key : ∀ l : List Nat, (l.flatMap fun q => (pageV h.vs q).filterMap (visV h)).length ≤ 14 * l.length := by
    intro l
    induction l with
    | nil => simp
    | cons q l ih =>
      rw [List.flatMap_cons, List.length_append, List.length_cons]
      have h1 := pages_len r q
      have h2 := List.length_filterMap_le (visV h) (pageV h.vs q)
      omega
  have := key (List.range h.pages)
  rwa [List.length_range] at this
theorem Losing.lost {h : HR} {c rm : Nat} {A : List Ver} (a : Losing h c rm A [2]) : abortR h 2 = (withoutR h 2, 0) ∧ abortR (withoutR h 2) 2 = (withoutR h 2, 70) ∧ commitR (withoutR h 2) 2 2 = (withoutR h 2, 70) ∧ Losing (withoutR h 2) c rm A [] := by
  have h1 : isAct h 2 = true := by rw [isAct_iff, a.act]; simp
  have h0 : (withoutR h 2).act = [] := by show h.act.filter _ = []; rw [a.act]; rfl
  have h2 : ¬ isAct (withoutR h 2) 2 = true := by rw [isAct_iff, h0]; simp
  refine ⟨by unfold abortR; rw [if_pos h1], by unfold abortR; rw [if_neg h2], by unfold commitR; rw [if_neg h2], a.r.without 2, a.pages, a.room, h0, a.cm, a.last, a.sure, a.vs⟩
theorem Losing.told {h : HR} {c rm : Nat} {A : List Ver} (a : Losing h c rm A []) : (∀ x ∈ A, x.fin = 0) ∧ Ending (beginR h) c rm 3 (fun z => z = 0 ∨ z = 2) (A.map plc) := by
  have hA := a.all rfl
  have hac : ∀ z, isAct h z = false := fun z => by unfold isAct; rw [a.act]; rfl
  have hcm : ∀ z, isCm h z = decide (z = 1) := fun z => by unfold isCm; rw [a.cm]; rw [Bool.eq_iff_iff]; simp
  have key : ∀ (v x : Ver), v ∈ h.vs → visV h v = some x → v.beg = 1 ∧ (v.fin = 0 ∨ v.fin = 2) ∧ x.fin = 0 := by
    intro v x hv hx
    unfold visV at hx
    simp only [hac, hcm, true_and] at hx
    rcases a.vs v hv with ⟨e1, e2⟩ | e
    · rw [e1] at hx
      rw [if_neg (by simp)] at hx
      rw [if_pos (by rcases e2 with e | e <;> simp [e])] at hx
      cases hx
      exact ⟨e1, e2, rfl⟩
    · rw [e] at hx
      rw [if_pos (by simp)] at hx
      cases hx
  have hmem : ∀ x ∈ A, ∃ (i : Nat) (v : Ver), findV h.vs x.page x.slot = some i ∧ h.vs[i]? = some v ∧ v.beg = 1 ∧ (v.fin = 0 ∨ v.fin = 2) ∧ x.fin = 0 := by
    intro x hx
    rw [← hA] at hx
    obtain ⟨i, v, h1, h2, h3, _⟩ := all_mem a.r hx
    exact ⟨i, v, h1, h2, key v x (List.mem_of_getElem? h2) h3⟩
  refine ⟨fun x hx => by obtain ⟨_, _, _, _, _, _, e⟩ := hmem x hx; exact e, a.r.begin, a.pages, a.room, ?_, a.cm, ?_, ?_, fun p hp => ?_⟩
  · show h.act ++ [h.last + 1] = [3]; rw [a.act, a.last]; rfl
  · show h.last + 1 = 3; rw [a.last]; rfl
  · rw [← hA]; exact all_nodup a.r
  · obtain ⟨x, hx, rfl⟩ := List.mem_map.1 hp
    obtain ⟨i, v, h1, h2, h3, h4, _⟩ := hmem x hx
    exact ⟨i, v, h1, h2, h3, h4⟩
theorem Ending.tail {h : HR} {c rm : Nat} {t : Int} {ok : Int → Prop} {x : Int × Int} {L : List (Int × Int)} (a : Ending h c rm t ok (x :: L)) : Ending h c rm t ok L := ⟨a.r, a.pages, a.room, a.act, a.cm, a.last, (List.nodup_cons.1 a.at_.1).2, fun p hp => a.at_.2 p (List.mem_cons_of_mem _ hp)⟩
set_option maxHeartbeats 16000000 in
set_option maxRecDepth 100000 in
theorem Hp.lost (B : Base) (sv : Value) (sc : List OpH) (hsv : RoLH B sv sc) (hsl : sc.length ≤ 1048576) (hdl : ∀ x ∈ sc, x.data.length ≤ 1048576) (tv : Value) (tc : List OpH) (htv : RoLH B tv tc) (htl : tc.length ≤ 1048576) (hdt : ∀ x ∈ tc, x.data.length ≤ 1048576) :
  Fn Tryz.prog B 6 #[sv, tv] [] (fun v l => v = .bool true ∧ l = []) := by
 obtain ⟨sa, scap, rfl, hsc⟩ := hsv
 obtain ⟨ta, tcap, rfl, htc⟩ := htv
 refine Fn.enter2 180 Tryz.func6 rfl rfl (nB rfl) (fun F => ?_)
 try simp only [cA, nA]
 refine T.seq ?_
 refine T.region ?_
 refine LW.q rfl (Qt.assign rfl) ?_
 refine LW.done ?_
 refine T.seq ?_
 refine T.seq ?_
 refine T.region ?_
 refine LW.e rfl (Ef.call (Hp.awake B) Tryz.func15 rfl rfl rfl ?_)
 rintro _ _ ⟨rfl, rfl⟩
 try simp only [cA, nA]
 refine LW.q rfl (Qt.notB rfl) ?_
 refine LW.done ?_
 refine T.condF rfl ?_
 refine T.skip ?_
 refine T.seq ?_
 refine T.region ?_
 refine LW.e rfl (Ef.call (Hp.opened B 60 30 30 3 60 30 3 rfl rfl rfl (by omega) (by omega) rfl (by omega) (by omega) (by omega)) Tryz.func16 rfl rfl rfl ?_)
 rintro _ _ ⟨b, g, rfl, rfl⟩
 try simp only [cA, nA]
 refine LW.q rfl (Qt.move rfl) ?_
 refine LW.q rfl (Qt.extr rfl rfl) ?_
 refine LW.q rfl (Qt.extr rfl rfl) ?_
 refine LW.q rfl (Qt.extr rfl rfl) ?_
 refine LW.q rfl (Qt.assign rfl) ?_
 refine LW.q rfl (Qt.assign rfl) ?_
 refine LW.q rfl (Qt.assign rfl) ?_
 refine LW.done ?_
 refine T.seq ?_
 refine T.seq ?_
 refine T.region ?_
 refine LW.q rfl (Qt.move rfl) ?_
 refine LW.q rfl (Qt.eqlNil (by kernel_rfl) rfl rfl) ?_
 refine LW.done ?_
 refine T.condF rfl ?_
 refine T.skip ?_
 refine T.seq ?_
 refine T.region ?_
 refine LW.q rfl (Qt.move rfl) ?_
 refine LW.q rfl (Qt.nilCheck rfl) ?_
 refine LW.q rfl (Qt.fieldAddr0 (by kernel_rfl) rfl) ?_
 refine LW.e rfl (Ef.call (Hp.begin B g b 30 30 3 30 (newR 30 (30 * 256)) (by omega)) Tryz.func17 rfl rfl rfl ?_)
 rintro _ _ ⟨rfl, rfl⟩
 try simp only [cA, nA]
 rw [show (newR 30 (30 * 256)).last + 1 = 1 from rfl]
 refine LW.q rfl (Qt.assign rfl) ?_
 refine LW.done ?_
 refine T.seq ?_
 refine T.region ?_
 refine LW.q rfl (Qt.assign rfl) ?_
 refine LW.done ?_
 have hA0 : Adding (beginR (newR 30 (30 * 256))) 30 7680 [] := ⟨(RInv.newR 30 (30 * 256)).begin, rfl, rfl, rfl, rfl, rfl, by simp, by simp⟩
 refine T.conv (l' := ridR none 0 0 [] :: _) (fun w ho => ho.row_nil _ _) ?_
 refine T.cut (fun fz lz => ∃ (f0 : Fr) (K : Nat) (h : HR) (L : List (Int × Int)) (p : Option Addr) (c n : Nat), (K ≤ 31 + 31 * 1048576 ∧ Adding h 30 7680 L ∧ AllOne h ∧ L.length = n ∧ n ≤ 6 ∧ h.used ≤ 204 * n) ∧ fz = (upd (upd (upd (upd f0 1 (.slice ta tc.length tcap)) 6 (pV g)) 8 (.int .i64 1)) 9 (.slice p n c)) ∧ lz = hpA g b 30 30 3 K h :: ridR p n c L :: F) ?_ ?_
 ·
  refine T.seq ?_
  refine T.region ?_
  refine LW.q rfl (Qt.move rfl) ?_
  refine LW.q rfl (Qt.len (e := 60) (sz := 9) (by kernel_rfl) rfl) ?_
  refine LW.q rfl (Qt.move rfl) ?_
  refine LW.done ?_
  refine T.block ?_
  refine T.loop (fun mz fz lz => ∃ (f0 : Fr) (k : Nat) (h : HR) (L : List (Int × Int)) (p : Option Addr) (c n : Nat), (k ≤ sc.length ∧ Adding h 30 7680 L ∧ AllOne h ∧ L.length = n ∧ n ≤ 5 ∧ h.used ≤ 204 * n) ∧ mz = sc.length - k ∧ fz = (upd (upd (upd (upd (upd (upd (upd f0 1 (.slice ta tc.length tcap)) 6 (pV g)) 8 (.int .i64 1)) 9 (.slice p n c)) 35 (.slice sa sc.length scap)) 36 (.int .i64 sc.length)) 37 (.int .i64 k)) ∧ lz = hpA g b 30 30 3 (31 + 31 * k) h :: ridR p n c L :: F) ?_ ?_
  · refine ⟨_, _, ⟨_, 0, beginR (newR 30 (30 * 256)), [], none, 0, 0, ⟨Nat.zero_le _, hA0, fun v hv => by simp [beginR, newR] at hv, rfl, by omega, by show (0 : Int) ≤ _; omega⟩, rfl, (updS rfl (updS rfl (updS rfl (updS rfl (updS rfl (updS rfl (updS rfl rfl))))))), rfl⟩, Sub.any⟩
  ·
   rintro mz fz lz ⟨f0, k, h, L, p, c, n, ⟨hk, hA, hO, hn, hn6, hu⟩, hmz, rfl, rfl⟩
   subst mz
   try simp only [cA, nA]
   refine T.seq ?_
   refine T.region ?_
   refine LW.q rfl (Qt.lss rfl rfl) ?_
   refine LW.done ?_
   refine T.seq ?_
   refine T.condP rfl (fun hlt => ?_) (fun hlt => ?_)
   ·
    obtain ⟨kb, ko, C, rfl, hro, hC⟩ := hsc.resolve_left (by intro e; rw [e] at hlt; simp at hlt; omega)
    obtain ⟨da, dc, ka, kc, hrd, hdv, hkv⟩ := hC k (by omega)
    have hxl := hdl sc[k] (List.getElem_mem _)
    obtain ⟨hA1, hA2⟩ := hA.add (by omega) sc[k].data
    have hO1 := hO.add sc[k].data
    have hU := used_add (h := h) 1 sc[k].data
    refine T.skip ?_
    refine T.seq ?_
    refine T.block ?_
    refine T.seq ?_
    refine T.region ?_
    refine LW.q rfl (Qt.index _ (e := 60) (sz := 9) (by kernel_rfl) rfl rfl rfl (by omega)) ?_
    refine LW.q rfl (Qt.loadAgg [_, _, _, _, _, _, _, _, _] (by kernel_rfl) rfl hrd) ?_
    refine LW.e rfl (Ef.alloc [.int .i64 0, .int .i64 0, .int .i64 0, .int .i64 0, .slice none 0 0, .int .i64 0, .slice none 0 0, .int .i64 0, .int .i64 0] (by unfold zeroB; kernel_rfl) ?_)
    intro g11
    refine LW.e0 rfl (Ef.store [_, _, _, _, _, _, _, _, _] (by kernel_rfl) rfl rfl rfl rfl (by simp) ?_)
    try simp only [splice, lC, lN, dS, cA, tS, tZ, dZ, nA, aN]
    refine LW.done ?_
    refine T.seq ?_
    refine T.seq ?_
    refine T.region ?_
    refine LW.q rfl (Qt.move rfl) ?_
    refine LW.q rfl (Qt.move rfl) ?_
    refine LW.q rfl (Qt.fieldAddr (off := 4) (by kernel_rfl) rfl) ?_
    refine LW.q rfl (Qt.load (by kernel_rfl) rfl rfl) ?_
    refine LW.e rfl (Ef.call (Hp.add B [] g b 30 30 3 (31 + 31 * k) h (by omega) 1 da dc sc[k].data (hdv.rd _) (by omega)) Tryz.func18 rfl rfl rfl ?_)
    rintro _ _ ⟨rfl, rfl⟩
    try simp only [cA, nA]
    rw [show 31 + 31 * k + 30 + 1 = 31 + 31 * (k + 1) by omega]
    refine LW.q rfl (Qt.move rfl) ?_
    refine LW.q rfl (Qt.extr rfl rfl) ?_
    refine LW.q rfl (Qt.extr rfl rfl) ?_
    refine LW.e rfl (Ef.alloc [.int .i64 0, .int .i64 0] (by unfold zeroB; kernel_rfl) ?_)
    intro g12
    refine LW.e0 rfl (Ef.store [_, _] (by kernel_rfl) rfl rfl rfl rfl (by simp) ?_)
    try simp only [splice, lC, lN, dS, cA, tS, tZ, dZ, nA, aN]
    refine LW.q rfl (Qt.assign rfl) ?_
    refine LW.done ?_
    refine T.seq ?_
    refine T.region ?_
    refine LW.q rfl (Qt.move rfl) ?_
    refine LW.q rfl (Qt.eql rfl rfl) ?_
    refine LW.q rfl (Qt.move rfl) ?_
    refine LW.split (t := 51) rfl (fun he => ?_) (fun he => ?_)
    ·
     try replace he := of_decide_eq_true he
     refine LW.q rfl (Qt.move rfl) ?_
     refine LW.q rfl (Qt.len (e := 39) (sz := 2) (by kernel_rfl) rfl) ?_
     refine LW.q rfl (Qt.lss rfl rfl) ?_
     refine LW.q rfl (Qt.pick rfl rfl) ?_
     refine LW.done ?_
     refine T.condPT rfl (by omega) ?_
     refine T.region ?_
     refine LW.q rfl (Qt.move rfl) ?_
     refine LW.q rfl (Qt.loadAgg [_, _] (by kernel_rfl) rfl ⟨rfl, rfl, trivial⟩) ?_
     refine LW.e rfl (Ef.one [_, _] (e := 39) (sz := 2) (by kernel_rfl) ⟨.agg #[.int .i64 0, .int .i64 0], by kernel_rfl, rfl⟩ rfl rfl rfl (by omega) (by omega) ?_)
     intro g58
     refine LW.e rfl (Ef.append Hp.elemRid rfl rfl (SrcOf.blk (by kernel_rfl) rfl (by simp [Value.oneCell'])) (by unfold maxLen; omega) (by omega) ?_)
     rintro p2 c2 hp2
     try simp only [cA, nA]
     rw [flat_snoc ridC L ((addR' h 1 sc[k].data).2.1, (addR' h 1 sc[k].data).2.2.1)]
     refine LW.q rfl (Qt.assign rfl) ?_
     refine LW.done ?_
     refine T.seq ?_
     refine T.region ?_
     refine LW.q rfl (Qt.move rfl) ?_
     refine LW.q rfl (Qt.len (e := 39) (sz := 2) (by kernel_rfl) rfl) ?_
     refine LW.q rfl (Qt.eql rfl rfl) ?_
     refine LW.done ?_
     refine T.condP rfl (fun h6 => ?_) (fun h6 => ?_)
     ·
      refine T.exit ?_
      exact ⟨_, ⟨_, 31 + 31 * (k + 1), (addR' h 1 sc[k].data).1, L ++ [((addR' h 1 sc[k].data).2.1, (addR' h 1 sc[k].data).2.2.1)], p2, c2, n + 1, ⟨by omega, hA2 he, hO1, by simp [hn], by omega, by rcases hU with ⟨e, _⟩ | ⟨_, e⟩; (exact absurd he e); omega⟩, (updS rfl (updS rfl (updS rfl (updS rfl rfl)))), rfl⟩, Sub.any⟩
     ·
      refine T.skip ?_
      refine T.region ?_
      refine LW.q rfl (Qt.add rfl rfl (wr64 (by omega) (by omega))) ?_
      refine LW.q rfl (Qt.move rfl) ?_
      refine LW.done ?_
      refine ⟨_, ?_, _, ⟨_, k + 1, (addR' h 1 sc[k].data).1, L ++ [((addR' h 1 sc[k].data).2.1, (addR' h 1 sc[k].data).2.2.1)], p2, c2, n + 1, ⟨by omega, hA2 he, hO1, by simp [hn], by omega, by rcases hU with ⟨e, _⟩ | ⟨_, e⟩; (exact absurd he e); omega⟩, rfl, (updS rfl (updS rfl (updS rfl (updS rfl (updS rfl (updS rfl (updS rfl rfl))))))), rfl⟩, Sub.any⟩
      omega
    ·
     try replace he := of_decide_eq_false he
     refine LW.s rfl ?_
     refine LW.s rfl ?_
     refine LW.s rfl ?_
     refine LW.q rfl (Qt.pick rfl rfl) ?_
     refine LW.done ?_
     refine T.condF rfl ?_
     refine T.skip ?_
     refine T.seq ?_
     refine T.region ?_
     refine LW.q rfl (Qt.move rfl) ?_
     refine LW.q rfl (Qt.len (e := 39) (sz := 2) (by kernel_rfl) rfl) ?_
     refine LW.q rfl (Qt.eql rfl rfl) ?_
     refine LW.done ?_
     refine T.condPF rfl (by omega) ?_
     refine T.skip ?_
     refine T.region ?_
     refine LW.q rfl (Qt.add rfl rfl (wr64 (by omega) (by omega))) ?_
     refine LW.q rfl (Qt.move rfl) ?_
     refine LW.done ?_
     refine ⟨_, ?_, _, ⟨_, k + 1, (addR' h 1 sc[k].data).1, L, p, c, n, ⟨by omega, hA1, hO1, hn, by omega, by rcases hU with ⟨_, e⟩ | ⟨e, _⟩; (rw [e]; exact hu); exact absurd e he⟩, rfl, (updS rfl (updS rfl (updS rfl (updS rfl (updS rfl (updS rfl (updS rfl rfl))))))), rfl⟩, Sub.any⟩
     omega
   ·
    refine T.exit ?_
    exact ⟨_, ⟨_, 31 + 31 * k, h, L, p, c, n, ⟨by omega, hA, hO, hn, by omega, hu⟩, (updS rfl (updS rfl (updS rfl (updS rfl rfl)))), rfl⟩, Sub.any⟩
 rintro fz lz ⟨f0, K, h, L, p, c, n, ⟨hK, hA, hO, hn, hn6, hu⟩, rfl, rfl⟩
 try simp only [cA, nA]
 have hrm := hA.room
 obtain ⟨h1, hh1⟩ : ∃ h1, (commitR h 1 1).1 = h1 := ⟨_, rfl⟩
 have hcx := hA.commit (fun x => x = 0) rfl
 obtain ⟨e1, e2, e3, e4, e5, e6, hE⟩ := hcx.resolve_left (fun e => by omega)
 rw [hh1] at e3 e4 e5 e6 hE
 refine T.seq ?_
 refine T.seq ?_
 refine T.region ?_
 refine LW.q rfl (Qt.move rfl) ?_
 refine LW.q rfl (Qt.move rfl) ?_
 refine LW.e rfl (Ef.call (Hp.commit B g b 30 30 3 K h (by omega) 1 1 (by rw [hA.cm]; simp)) Tryz.func20 rfl rfl rfl ?_)
 rintro _ _ ⟨rfl, rfl⟩
 try simp only [cA, nA]
 rw [e1, hh1]
 refine LW.q rfl (Qt.neq rfl rfl) ?_
 refine LW.done ?_
 refine T.condF rfl ?_
 have hlast1 : h1.last + 1 = 2 := hE.last
 obtain ⟨A, hAl⟩ : ∃ A, allR h1 = A := ⟨_, rfl⟩
 have hlos : Losing (beginR h1) 30 7680 A [2] := ⟨hE.r, hE.pages, hE.room, hE.act, hE.cm, hE.last, by show sureR h1 = A; rw [← hAl]; unfold sureR; rw [show ({ h1 with act := [] } : HR) = h1 by cases h1; simp_all], fun v hv => .inl ⟨(hO v (by rw [← e4]; exact hv)).1, .inl (hO v (by rw [← e4]; exact hv)).2⟩⟩
 have hAlen : A.length ≤ 14 * 30 := by rw [← hAl]; have := all_len (hE.r.ok.congr (g := h1) rfl rfl rfl rfl rfl rfl); rwa [show h1.pages = 30 from hE.pages] at this
 refine T.skip ?_
 refine T.seq ?_
 refine T.region ?_
 refine LW.q rfl (Qt.move rfl) ?_
 refine LW.e rfl (Ef.call (Hp.all B g b 30 30 3 K h1 (by omega)) Tryz.func19 rfl rfl rfl ?_)
 rintro _ _ ⟨L1, p1, c1, hL1, hL2, rfl, rfl⟩
 try simp only [cA, nA]
 rw [hAl] at hL2
 have hn1 : L1.length = A.length := by rw [← hL2, List.length_map]
 obtain ⟨m, hm⟩ : ∃ m, A.length = m := ⟨_, rfl⟩
 rw [hn1, hm]
 refine LW.q rfl (Qt.assign rfl) ?_
 refine LW.done ?_
 refine T.seq ?_
 refine T.region ?_
 refine LW.q rfl (Qt.move rfl) ?_
 refine LW.q rfl (Qt.nilCheck rfl) ?_
 refine LW.q rfl (Qt.fieldAddr0 (by kernel_rfl) rfl) ?_
 refine LW.e rfl (Ef.call (Hp.begin B g b 30 30 3 (K + 30) h1 (by omega)) Tryz.func17 rfl rfl rfl ?_)
 rintro _ _ ⟨rfl, rfl⟩
 try simp only [cA, nA]
 rw [hlast1]
 refine LW.q rfl (Qt.assign rfl) ?_
 refine LW.done ?_
 refine T.seq ?_
 refine T.seq ?_
 refine T.region ?_
 refine LW.q rfl (Qt.move rfl) ?_
 refine LW.q rfl (Qt.len (e := 60) (sz := 9) (by kernel_rfl) rfl) ?_
 refine LW.q rfl (Qt.move rfl) ?_
 refine LW.done ?_
 refine T.block ?_
 refine T.loop (fun mz fz lz => ∃ (f0 : Fr) (k K2 : Nat) (h : HR), (k ≤ tc.length ∧ K2 ≤ K + 31 + 33 * k ∧ Losing h 30 7680 A [2]) ∧ mz = tc.length - k ∧ fz = (upd (upd (upd (upd (upd (upd (upd f0 6 (pV g)) 9 (.slice p n c)) 14 (.slice p1 m c1)) 15 (.int .i64 2)) 74 (.slice ta tc.length tcap)) 75 (.int .i64 tc.length)) 76 (.int .i64 k)) ∧ lz = hpA g b 30 30 3 K2 h :: ridR p n c L :: vmR p1 m c1 L1 :: vmsA L1 :: F) ?_ ?_
 · refine ⟨_, _, ⟨_, 0, K + 31, beginR h1, ⟨Nat.zero_le _, by omega, hlos⟩, rfl, (updS rfl (updS rfl (updS rfl (updS rfl (updS rfl (updS rfl (updS rfl rfl))))))), rfl⟩, Sub.any⟩
 ·
  rintro mz fz lz ⟨f0, k, K2, h, ⟨hk, hK2, hlo⟩, hmz, rfl, rfl⟩
  subst mz
  try simp only [cA, nA]
  refine T.seq ?_
  refine T.region ?_
  refine LW.q rfl (Qt.lss rfl rfl) ?_
  refine LW.done ?_
  refine T.seq ?_
  refine T.condP rfl (fun hlt => ?_) (fun hlt => ?_)
  ·
   obtain ⟨kb, ko, C, rfl, hro, hC⟩ := htc.resolve_left (by intro e; rw [e] at hlt; simp at hlt; omega)
   obtain ⟨da, dc, ka, kc, hrd, hdv, hkv⟩ := hC k (by omega)
   have hxl := hdt tc[k] (List.getElem_mem _)
   refine T.skip ?_
   refine T.seq ?_
   refine T.block ?_
   refine T.seq ?_
   refine T.region ?_
   refine LW.q rfl (Qt.move rfl) ?_
   refine LW.q rfl (Qt.index _ (e := 60) (sz := 9) (by kernel_rfl) rfl rfl rfl (by omega)) ?_
   refine LW.q rfl (Qt.loadAgg [_, _, _, _, _, _, _, _, _] (by kernel_rfl) rfl hrd) ?_
   refine LW.e rfl (Ef.alloc [.int .i64 0, .int .i64 0, .int .i64 0, .int .i64 0, .slice none 0 0, .int .i64 0, .slice none 0 0, .int .i64 0, .int .i64 0] (by unfold zeroB; kernel_rfl) ?_)
   intro g17
   refine LW.q rfl (Qt.assign rfl) ?_
   refine LW.e0 rfl (Ef.store [_, _, _, _, _, _, _, _, _] (by kernel_rfl) rfl rfl rfl rfl (by simp) ?_)
   try simp only [splice, lC, lN, dS, cA, tS, tZ, dZ, nA, aN]
   refine LW.done ?_
   refine T.seq ?_
   refine T.seq ?_
   refine T.region ?_
   refine LW.q rfl (Qt.move rfl) ?_
   refine LW.q rfl (Qt.lss rfl rfl) ?_
   refine LW.done ?_
   refine T.condP rfl (fun h6 => ?_) (fun h6 => ?_)
   ·
    refine T.region ?_
    refine LW.q rfl (Qt.move rfl) ?_
    refine LW.q rfl (Qt.move rfl) ?_
    refine LW.q rfl (Qt.fieldAddr (off := 4) (by kernel_rfl) rfl) ?_
    refine LW.q rfl (Qt.load (by kernel_rfl) rfl rfl) ?_
    refine LW.e rfl (Ef.call (Hp.add B [] g b 30 30 3 K2 h (by omega) 2 da dc tc[k].data (hdv.rd _) (by omega)) Tryz.func18 rfl rfl rfl ?_)
    rintro _ _ ⟨rfl, rfl⟩
    try simp only [cA, nA]
    refine LW.done ?_
    refine T.seq ?_
    refine T.region ?_
    refine LW.q rfl (Qt.move rfl) ?_
    refine LW.q rfl (Qt.move rfl) ?_
    refine LW.q rfl (Qt.len (e := 39) (sz := 2) (by kernel_rfl) rfl) ?_
    refine LW.q rfl (Qt.lss rfl rfl) ?_
    refine LW.done ?_
    have hlo2 := hlo.add (by omega) tc[k].data
    obtain ⟨h3, hh3⟩ : ∃ h3, (addR' h 2 tc[k].data).1 = h3 := ⟨_, rfl⟩
    rw [hh3] at hlo2
    rw [hh3]
    refine T.condP rfl (fun hat => ?_) (fun hat => ?_)
    ·
     refine T.own fun w ho => ?_
     obtain ⟨gp, rfl⟩ : ∃ g, p = some ⟨g, 0, none⟩ := ((ho.map Sub.any : Own B w [ridR p n c L]).slice_at (p := p) (m := n) (c := c)).2.1 (by omega)
     clear ho
     obtain ⟨x, hx⟩ : ∃ x, L[k]'(by omega) = x := ⟨_, rfl⟩
     refine T.region ?_
     refine LW.q rfl (Qt.move rfl) ?_
     refine LW.q rfl (Qt.move rfl) ?_
     refine LW.q rfl (Qt.move rfl) ?_
     refine LW.q rfl (Qt.move rfl) ?_
     refine LW.q rfl (Qt.index _ (e := 39) (sz := 2) (by kernel_rfl) rfl rfl rfl (by omega)) ?_
     refine LW.q rfl (Qt.loadAgg [.int .i64 x.1, .int .i64 x.2] (by kernel_rfl) rfl (by rw [show [Value.int .i64 x.1, .int .i64 x.2] = ridC (L[k]'(by omega)) by rw [hx]]; exact rdl_flat _ _ _ (by intros; rfl) _ (by omega))) ?_
     refine LW.e rfl (Ef.call (Hp.end_ B g b 30 30 3 (K2 + 30 + 1) h3 (by omega) 2 x.1 x.2) Tryz.func22 rfl rfl rfl ?_)
     rintro _ _ ⟨rfl, rfl⟩
     try simp only [cA, nA]
     refine LW.done ?_
     refine T.region ?_
     refine LW.q rfl (Qt.add rfl rfl (wr64 (by omega) (by omega))) ?_
     refine LW.q rfl (Qt.move rfl) ?_
     refine LW.done ?_
     refine ⟨_, ?_, _, ⟨_, k + 1, K2 + 30 + 1 + 2, (endR h3 2 x.1 x.2).1, ⟨by omega, by omega, hlo2.end_ (by omega) x.1 x.2⟩, rfl, (updS rfl (updS rfl (updS rfl (updS rfl (updS rfl (updS rfl (updS rfl rfl))))))), rfl⟩, Sub.any⟩
     omega
    ·
     refine T.skip ?_
     refine T.region ?_
     refine LW.q rfl (Qt.add rfl rfl (wr64 (by omega) (by omega))) ?_
     refine LW.q rfl (Qt.move rfl) ?_
     refine LW.done ?_
     refine ⟨_, ?_, _, ⟨_, k + 1, K2 + 30 + 1, h3, ⟨by omega, by omega, hlo2⟩, rfl, (updS rfl (updS rfl (updS rfl (updS rfl (updS rfl (updS rfl (updS rfl rfl))))))), rfl⟩, Sub.any⟩
     omega
   ·
    refine T.skip ?_
    refine T.seq ?_
    refine T.region ?_
    refine LW.q rfl (Qt.move rfl) ?_
    refine LW.q rfl (Qt.move rfl) ?_
    refine LW.q rfl (Qt.len (e := 39) (sz := 2) (by kernel_rfl) rfl) ?_
    refine LW.q rfl (Qt.lss rfl rfl) ?_
    refine LW.done ?_
    refine T.condPF rfl (by omega) ?_
    refine T.skip ?_
    refine T.region ?_
    refine LW.q rfl (Qt.add rfl rfl (wr64 (by omega) (by omega))) ?_
    refine LW.q rfl (Qt.move rfl) ?_
    refine LW.done ?_
    refine ⟨_, ?_, _, ⟨_, k + 1, K2, h, ⟨by omega, by omega, hlo⟩, rfl, (updS rfl (updS rfl (updS rfl (updS rfl (updS rfl (updS rfl (updS rfl rfl))))))), rfl⟩, Sub.any⟩
    omega
  ·
   obtain ⟨l1, l2, l3, l4⟩ := hlo.lost
   obtain ⟨h3, hh3⟩ : ∃ h3, withoutR h 2 = h3 := ⟨_, rfl⟩
   rw [hh3] at l1 l2 l3 l4
   refine T.exit ?_
   refine T.seq ?_
   refine T.seq ?_
   refine T.region ?_
   refine LW.q rfl (Qt.move rfl) ?_
   refine LW.q rfl (Qt.nilCheck rfl) ?_
   refine LW.q rfl (Qt.fieldAddr0 (by kernel_rfl) rfl) ?_
   refine LW.q rfl (Qt.move rfl) ?_
   refine LW.e rfl (Ef.call (Hp.abort B g b 30 30 3 K2 h 2) Tryz.func23 rfl rfl rfl ?_)
   rintro _ _ ⟨rfl, rfl⟩
   try simp only [cA, nA]
   rw [l1]
   refine LW.q rfl (Qt.neq rfl rfl) ?_
   refine LW.q rfl (Qt.move rfl) ?_
   refine LW.gF (t := 106) rfl rfl ?_
   refine LW.q rfl (Qt.move rfl) ?_
   refine LW.q rfl (Qt.nilCheck rfl) ?_
   refine LW.q rfl (Qt.fieldAddr0 (by kernel_rfl) rfl) ?_
   refine LW.q rfl (Qt.move rfl) ?_
   refine LW.e rfl (Ef.call (Hp.abort B g b 30 30 3 K2 h3 2) Tryz.func23 rfl rfl rfl ?_)
   rintro _ _ ⟨rfl, rfl⟩
   try simp only [cA, nA]
   rw [l2]
   refine LW.q rfl (Qt.neq rfl rfl) ?_
   refine LW.q rfl (Qt.pick rfl rfl) ?_
   refine LW.q rfl (Qt.move rfl) ?_
   refine LW.gF (t := 114) rfl rfl ?_
   refine LW.q rfl (Qt.move rfl) ?_
   refine LW.q rfl (Qt.move rfl) ?_
   refine LW.e rfl (Ef.call (Hp.commit B g b 30 30 3 K2 h3 (by omega) 2 2 (by rw [l4.cm]; simp)) Tryz.func20 rfl rfl rfl ?_)
   rintro _ _ ⟨rfl, rfl⟩
   try simp only [cA, nA]
   rw [l3]
   refine LW.q rfl (Qt.neq rfl rfl) ?_
   refine LW.q rfl (Qt.pick rfl rfl) ?_
   refine LW.done ?_
   refine T.condF rfl ?_
   obtain ⟨t1, t2⟩ := l4.told
   refine T.skip ?_
   refine T.seq ?_
   refine T.region ?_
   refine LW.q rfl (Qt.move rfl) ?_
   refine LW.e rfl (Ef.call (Hp.all B g b 30 30 3 K2 h3 (by omega)) Tryz.func19 rfl rfl rfl ?_)
   rintro _ _ ⟨L3, p3, c3, hL3, hL4, rfl, rfl⟩
   try simp only [cA, nA]
   rw [l4.all rfl] at hL4
   have hn3 : L3.length = A.length := by rw [← hL4, List.length_map]
   rw [hn3, hm]
   refine LW.q rfl (Qt.assign rfl) ?_
   refine LW.done ?_
   refine T.seq ?_
   refine T.seq ?_
   refine T.region ?_
   refine LW.q rfl (Qt.move rfl) ?_
   refine LW.q rfl (Qt.len (e := 45) (sz := 5) (by kernel_rfl) rfl) ?_
   refine LW.q rfl (Qt.move rfl) ?_
   refine LW.q rfl (Qt.len (e := 45) (sz := 5) (by kernel_rfl) rfl) ?_
   refine LW.q rfl (Qt.neq rfl rfl) ?_
   refine LW.done ?_
   refine T.condPF rfl (by omega) ?_
   refine T.skip ?_
   refine T.seq ?_
   refine T.region ?_
   refine LW.q rfl (Qt.move rfl) ?_
   refine LW.q rfl (Qt.nilCheck rfl) ?_
   refine LW.q rfl (Qt.fieldAddr0 (by kernel_rfl) rfl) ?_
   refine LW.e rfl (Ef.call (Hp.begin B g b 30 30 3 (K2 + 30) h3 (by omega)) Tryz.func17 rfl rfl rfl ?_)
   rintro _ _ ⟨rfl, rfl⟩
   try simp only [cA, nA]
   rw [show h3.last + 1 = 3 from t2.last]
   refine LW.q rfl (Qt.assign rfl) ?_
   refine LW.done ?_
   refine T.seq ?_
   refine T.seq ?_
   refine T.region ?_
   refine LW.q rfl (Qt.move rfl) ?_
   refine LW.q rfl (Qt.len (e := 45) (sz := 5) (by kernel_rfl) rfl) ?_
   refine LW.q rfl (Qt.move rfl) ?_
   refine LW.done ?_
   refine T.block ?_
   obtain ⟨K3, hK3⟩ : ∃ K3, K2 + 30 + 1 = K3 := ⟨_, rfl⟩
   rw [hK3]
   refine T.loop (fun mz fz lz => ∃ (f0 : Fr) (i K4 : Nat) (h : HR), (i ≤ m ∧ K4 ≤ K3 + 32 * i ∧ Ending h 30 7680 3 (fun z => z = 0 ∨ z = 2) ((A.map plc).drop i)) ∧ mz = m - i ∧ fz = (upd (upd (upd (upd (upd (upd f0 6 (pV g)) 14 (.slice p1 m c1)) 19 (.int .i64 3)) 131 (.slice p3 m c3)) 132 (.int .i64 m)) 133 (.int .i64 i)) ∧ lz = hpA g b 30 30 3 K4 h :: vmR p1 m c1 L1 :: vmsA L1 :: vmR p3 m c3 L3 :: vmsA L3 :: F) ?_ ?_
   · refine ⟨_, _, ⟨_, 0, K3, beginR h3, ⟨Nat.zero_le _, Nat.le_refl _, t2⟩, rfl, (updS rfl (updS rfl (updS rfl (updS rfl (updS rfl (updS rfl rfl)))))), rfl⟩, Sub.any⟩
   ·
    rintro mz fz lz ⟨f0, i, K4, h, ⟨hi, hK4, hEn⟩, hmz, rfl, rfl⟩
    subst mz
    try simp only [cA, nA]
    refine T.seq ?_
    refine T.region ?_
    refine LW.q rfl (Qt.lss rfl rfl) ?_
    refine LW.done ?_
    refine T.seq ?_
    refine T.condP rfl (fun hlt3 => ?_) (fun hlt3 => ?_)
    ·
     refine T.own fun w ho => ?_
     obtain ⟨q1, rfl⟩ : ∃ g, p1 = some ⟨g, 0, none⟩ := ((ho.map Sub.any : Own B w [vmR p1 m c1 L1]).slice_at (p := p1) (m := m) (c := c1)).2.1 (by omega)
     obtain ⟨q3, rfl⟩ : ∃ g, p3 = some ⟨g, 0, none⟩ := ((ho.map Sub.any : Own B w [vmR p3 m c3 L3]).slice_at (p := p3) (m := m) (c := c3)).2.1 (by omega)
     have hv1 : VmsOk L1 := (ho.map Sub.any : Own B w [vmsA L1]).vmsOk hL1
     have hv3 : VmsOk L3 := (ho.map Sub.any : Own B w [vmsA L3]).vmsOk hL3
     clear ho
     obtain ⟨x, hx⟩ : ∃ x, A[i]? = some x := ⟨_, List.getElem?_eq_getElem (by omega)⟩
     have hfin := t1 x (List.mem_of_getElem? hx)
     obtain ⟨y1, hy1⟩ : ∃ y, L1[i]? = some y := ⟨_, List.getElem?_eq_getElem (by omega)⟩
     obtain ⟨y3, hy3⟩ : ∃ y, L3[i]? = some y := ⟨_, List.getElem?_eq_getElem (by omega)⟩
     have hx1 : y1.v = x := by rw [← hL2, List.getElem?_map, hy1] at hx; simpa using hx
     have hx3 : y3.v = x := by rw [← hL4, List.getElem?_map, hy3] at hx; simpa using hx
     have r1 := RdV.ver (B := B) hv1 hy1
     have r3 := RdV.ver (B := B) hv3 hy3
     have a0 := ver_at hy1 0 (by omega) rfl
     have a1 := ver_at hy1 1 (by omega) rfl
     have a4 := ver_at hy1 4 (by omega) rfl
     rw [hx1] at r1 a0 a1 a4
     rw [hx3] at r3
     have hdr : (A.map plc).drop i = plc x :: (A.map plc).drop (i + 1) := by rw [List.drop_eq_getElem_cons (by simp; omega), List.getElem_map, (List.getElem?_eq_some_iff.1 hx).2]
     rw [hdr] at hEn
     refine T.skip ?_
     refine T.seq ?_
     refine T.block ?_
     refine T.seq ?_
     refine T.region ?_
     refine LW.q rfl (Qt.move rfl) ?_
     refine LW.q rfl (Qt.index _ (e := 45) (sz := 5) (by kernel_rfl) rfl rfl rfl (by omega)) ?_
     refine LW.q rfl (Qt.loadAgg [.int .i64 x.page, .int .i64 x.slot, .int .i64 x.beg, .int .i64 x.fin, .slice (offA y3.p y3.c 16 1) x.data.length (y3.c - 16)] (by kernel_rfl) rfl (by rw [show [Value.int .i64 x.page, .int .i64 x.slot, .int .i64 x.beg, .int .i64 x.fin, .slice (offA y3.p y3.c 16 1) x.data.length (y3.c - 16)] = vmC (L3[i]'(by omega)) by rw [(List.getElem?_eq_some_iff.1 hy3).2]; simp only [vmC, hx3]]; exact rdl_flat _ _ _ (by intros; rfl) _ (by omega))) ?_
     refine LW.e rfl (Ef.alloc [.int .i64 0, .int .i64 0, .int .i64 0, .int .i64 0, .slice none 0 0] (by unfold zeroB; kernel_rfl) ?_)
     intro g21
     refine LW.q rfl (Qt.assign rfl) ?_
     refine LW.e0 rfl (Ef.store [_, _, _, _, _] (by kernel_rfl) rfl rfl rfl rfl (by simp) ?_)
     try simp only [splice, lC, lN, dS, cA, tS, tZ, dZ, nA, aN]
     refine LW.done ?_
     refine T.seq ?_
     refine T.seq ?_
     refine T.drawAll 25 (by kernel_rfl) (nB rfl) (by kernel_rfl) ?_
     refine RW.q 0 rfl rfl (by kernel_rfl) (Sub.refl _) (Qt.fieldAddr0 (by kernel_rfl) rfl) ?_
     refine RW.q 1 rfl rfl (by kernel_rfl) (Sub.refl _) (Qt.loadAgg [_, _] (by kernel_rfl) rfl ⟨rfl, rfl, trivial⟩) ?_
     refine RW.q 2 rfl rfl (by kernel_rfl) (Sub.refl _) (Qt.move rfl) ?_
     refine RW.q 3 rfl rfl (by kernel_rfl) (Sub.refl _) (Qt.move rfl) ?_
     refine RW.q 4 rfl rfl (by kernel_rfl) (Sub.refl _) (Qt.index _ (e := 45) (sz := 5) (by kernel_rfl) rfl rfl rfl (by omega)) ?_
     refine RW.q 5 rfl rfl (by kernel_rfl) (Sub.refl _) (Qt.fieldAddr0 (by kernel_rfl) rfl) ?_
     refine RW.q 6 rfl rfl (by kernel_rfl) (Sub.refl _) (Qt.loadAgg [.int .i64 x.page, .int .i64 x.slot] (by kernel_rfl) rfl ⟨by simpa using a0, by simpa using a1, trivial⟩) ?_
     refine RW.q 7 rfl rfl (by kernel_rfl) (Sub.refl _) (Qt.neqSt (eqRid x.page x.slot x.page x.slot) rfl rfl) ?_
     refine RW.q 8 rfl rfl (by kernel_rfl) (Sub.refl _) (Qt.move rfl) ?_
     refine RW.gF (t := 146) rfl ((by simp)) ?_
     refine RW.q 9 rfl rfl (by kernel_rfl) (Sub.refl _) (Qt.fieldAddr (off := 3) (by kernel_rfl) rfl) ?_
     refine RW.q 10 rfl rfl (by kernel_rfl) (Sub.refl _) (Qt.load (by kernel_rfl) rfl rfl) ?_
     refine RW.q 11 rfl rfl (by kernel_rfl) (Sub.refl _) (Qt.neq rfl rfl) ?_
     refine RW.q 12 rfl rfl (by kernel_rfl) (Sub.refl _) (Qt.pick rfl rfl) ?_
     refine RW.q 13 rfl rfl (by kernel_rfl) (Sub.refl _) (Qt.move rfl) ?_
     refine RW.gF (t := 151) rfl (decide_eq_false (by omega)) ?_
     refine RW.q 14 rfl rfl (by kernel_rfl) (Sub.refl _) (Qt.fieldAddr (off := 4) (by kernel_rfl) rfl) ?_
     refine RW.q 15 rfl rfl (by kernel_rfl) (Sub.refl _) (Qt.load (by kernel_rfl) rfl rfl) ?_
     refine RW.q 16 rfl rfl (by kernel_rfl) (Sub.refl _) (Qt.str x.data (by kernel_rfl) (by kernel_rfl) rfl (fun w ho => r3.reads w (ho.map Sub.any))) ?_
     refine RW.q 17 rfl rfl (by kernel_rfl) (Sub.refl _) (Qt.move rfl) ?_
     refine RW.q 18 rfl rfl (by kernel_rfl) (Sub.refl _) (Qt.move rfl) ?_
     refine RW.q 19 rfl rfl (by kernel_rfl) (Sub.refl _) (Qt.index _ (e := 45) (sz := 5) (by kernel_rfl) rfl rfl rfl (by omega)) ?_
     refine RW.q 20 rfl rfl (by kernel_rfl) (Sub.refl _) (Qt.fieldAddr (off := 4) (by kernel_rfl) rfl) ?_
     refine RW.q 21 rfl rfl (by kernel_rfl) (Sub.refl _) (Qt.load (v := .slice (offA y1.p y1.c 16 1) x.data.length (y1.c - 16)) (by kernel_rfl) rfl (by simpa using a4)) ?_
     refine RW.q 22 rfl rfl (by kernel_rfl) (Sub.refl _) (Qt.str x.data (by kernel_rfl) (by kernel_rfl) rfl (fun w ho => r1.reads w (ho.map Sub.any))) ?_
     refine RW.q 23 rfl rfl (by kernel_rfl) (Sub.refl _) (Qt.neqS rfl rfl) ?_
     refine RW.q 24 rfl rfl (by kernel_rfl) (Sub.refl _) (Qt.pick rfl rfl) ?_
     refine RW.done (by rfl) ?_
     simp only [dS, dZ, dN]
     refine LW.done ?_
     refine T.condPF rfl ((by simp)) ?_
     refine T.skip ?_
     refine T.seq ?_
     refine T.region ?_
     refine LW.q rfl (Qt.move rfl) ?_
     refine LW.e rfl (Ef.call (Hp.fits B [] g b 30 30 3 K4 h (by omega) (by omega) 1 (by omega) none 0 0 [] (RdV.nil _ 0) rfl (by omega)) Tryz.func24 rfl rfl rfl ?_)
     rintro _ _ ⟨rfl, rfl⟩
     try simp only [cA, nA]
     refine LW.q rfl (Qt.move rfl) ?_
     refine LW.split (t := 165) rfl (fun hf => ?_) (fun hf => ?_)
     ·
      try replace hf := of_decide_eq_true hf
      have hfi := (fitsR_iff hEn.r 1 []).1 (by simpa using hf)
      have hrm4 := hEn.room
      obtain ⟨i0, hi0, hen, hE2⟩ := hEn.end_ (by omega) (by omega) (fun z hz => by omega) (by omega)
      dsimp only [plc] at hen hE2
      refine LW.q rfl (Qt.move rfl) ?_
      refine LW.q rfl (Qt.move rfl) ?_
      refine LW.q rfl (Qt.fieldAddr0 (by kernel_rfl) rfl) ?_
      refine LW.q rfl (Qt.loadAgg [_, _] (by kernel_rfl) rfl ⟨rfl, rfl, trivial⟩) ?_
      refine LW.e rfl (Ef.call (Hp.end_ B g b 30 30 3 (K4 + 30) h (by omega) 3 x.page x.slot) Tryz.func22 rfl rfl rfl ?_)
      rintro _ _ ⟨rfl, rfl⟩
      try simp only [cA, nA]
      rw [hen]
      refine LW.q rfl (Qt.neq rfl rfl) ?_
      refine LW.q rfl (Qt.pick rfl rfl) ?_
      refine LW.done ?_
      refine T.condF rfl ?_
      refine T.skip ?_
      refine T.region ?_
      refine LW.q rfl (Qt.add rfl rfl (wr64 (by omega) (by omega))) ?_
      refine LW.q rfl (Qt.move rfl) ?_
      refine LW.done ?_
      refine ⟨_, ?_, _, ⟨_, i + 1, K4 + 30 + 2, writeR h (endE 3 x.page x.slot), ⟨by omega, by omega, hE2⟩, rfl, (updS rfl (updS rfl (updS rfl (updS rfl (updS rfl (updS rfl rfl)))))), rfl⟩, Sub.any⟩
      omega
     ·
      try replace hf := of_decide_eq_false hf
      refine LW.s rfl ?_
      refine LW.s rfl ?_
      refine LW.s rfl ?_
      refine LW.s rfl ?_
      refine LW.s rfl ?_
      refine LW.s rfl ?_
      refine LW.q rfl (Qt.pick rfl rfl) ?_
      refine LW.done ?_
      refine T.condF rfl ?_
      refine T.skip ?_
      refine T.region ?_
      refine LW.q rfl (Qt.add rfl rfl (wr64 (by omega) (by omega))) ?_
      refine LW.q rfl (Qt.move rfl) ?_
      refine LW.done ?_
      refine ⟨_, ?_, _, ⟨_, i + 1, K4 + 30, h, ⟨by omega, by omega, hEn.tail⟩, rfl, (updS rfl (updS rfl (updS rfl (updS rfl (updS rfl (updS rfl rfl)))))), rfl⟩, Sub.any⟩
      omega
    ·
     refine T.exit ?_
     refine T.seq ?_
     refine T.region ?_
     refine LW.q rfl (Qt.move rfl) ?_
     refine LW.q rfl (Qt.nilCheck rfl) ?_
     refine LW.q rfl (Qt.fieldAddr0 (by kernel_rfl) rfl) ?_
     refine LW.e rfl (Ef.call (Hp.commits B g b 30 30 3 K4 h (by rw [hEn.cm]; simp)) Tryz.func21 rfl rfl rfl ?_)
     rintro _ _ ⟨p7, c7, rfl, rfl⟩
     try simp only [cA, nA]
     rw [hEn.cm]
     refine LW.q rfl (Qt.len (e := 48) (sz := 2) (by kernel_rfl) rfl) ?_
     refine LW.q rfl (Qt.eql rfl rfl) ?_
     refine LW.q rfl (Qt.assign rfl) ?_
     refine LW.done ?_
     refine T.ret ?_
     exact ⟨.inl rfl, _, _, res [_] rfl ⟨rvT rfl, trivial⟩, ⟨rfl, rfl⟩, Sub.any⟩
end Go.Proofs.YtiooeiapplnafaaGreatDoor

/- The law HeapLost of annalslaw08 holds (its card): for all arguments of bulk at most 1048576 the call returns true and the arguments read as before. Condition: the bound of the second form. -/
namespace Go.Proofs.YtiooeiapplnafaaGreatDoor.heapLost
open Go.ChangeShapes Go.WideShapes Go.ChangeAt Go.RowKit

set_option maxRecDepth 100000 in
theorem contract (H : Type) (enc : TypeId × Value → H) (W : World) (base : Nat) (args : Array Value) (ds gs : List (DataW H)) (before : List MemPlace)
    (hval : ∀ (j : Nat) t v, Tryz.f6.params[j]? = some t → args[j]? = some v → Value.okWide Tryz.prog W .any base t v)
    (hW : DataW.Whole enc Tryz.prog Tryz.f6.params.toList Rows.heapLostSpec.vars false W args.toList ds gs before) (hk : Rows.uptoSmall H (ds ++ gs) = true) :
    Calls Tryz.prog 6 args W fun e W' => ∃ v, e = .returned v ∧ Rows.heapLostSpec.post enc Tryz.prog Tryz.f6 false true false false W args v W' := by
  have hW0 := hW
  obtain ⟨p, q, hA0, hV, rfl, hfz, hnd⟩ := hW
  have hA : DataW.TrodAll enc Tryz.prog W 0 (fun _ => true) true Tryz.f6.params.toList args.toList ds p := hA0
  rw [Tryz.params6] at hA hval
  obtain ⟨v0, v1, d0, d1, p0, p1, rfl, rfl, rfl, h0, h1⟩ := trodAll_two hA
  obtain ⟨rfl, rfl⟩ := trodVars_none hV
  have hbulk := Tryz.upto_bound hk
  rw [List.append_nil] at hbulk
  clear hA0 hV hk
  obtain ⟨sa0, sl0, sc0, rfl⟩ := okWide_slice Tryz.underlying54 (hval 0 54 v0 rfl rfl)
  obtain ⟨fu0, t0⟩ := h0
  obtain ⟨sv0, l0, hc0, hs0, hB0, hL0⟩ := open_slice_R (enc := enc) (P := Tryz.prog) (W := W) (R := OpHR W) (B := fun o => o.data.length + o.keep.length + 2) Tryz.underlying54 (show Tryz.prog.cellsOf 60 = 9 by kernel_rfl) (by omega) (fun n cs y => read_opH n cs y) t0
  simp only [Value.cells, List.cons.injEq, and_true] at hc0
  subst hc0
  dsimp only at hB0 hL0
  obtain ⟨sa1, sl1, sc1, rfl⟩ := okWide_slice Tryz.underlying54 (hval 1 54 v1 rfl rfl)
  obtain ⟨fu1, t1⟩ := h1
  obtain ⟨sv1, l1, hc1, hs1, hB1, hL1⟩ := open_slice_R (enc := enc) (P := Tryz.prog) (W := W) (R := OpHR W) (B := fun o => o.data.length + o.keep.length + 2) Tryz.underlying54 (show Tryz.prog.cellsOf 60 = 9 by kernel_rfl) (by omega) (fun n cs y => read_opH n cs y) t1
  simp only [Value.cells, List.cons.injEq, and_true] at hc1
  subst hc1
  dsimp only at hB1 hL1
  rw [bulk_two] at hbulk

  refine (Fn.law (Hp.lost _ _ l0 hs0.roLH (by omega) (fun x hx => by have := opH_le hx; omega) _ l1 hs1.roLH (by omega) (fun x hx => by have := opH_le hx; omega))).mono fun e W' ⟨he, hg⟩ => ?_
  subst he
  exact ⟨_, rfl, post_law Tryz.laidOut hW0 rfl rfl 4 Tryz.underlying4 (by kernel_rfl) (by rw [Tryz.params6]; decide +kernel) hg.toBelow⟩

theorem reads (os : Os) {H : Type} (enc : TypeId × Value → H) : ∃ places, DataW.whole enc Tryz.prog ((laidWorld os).forCall (fun _ _ => 0) ⟨#[], #[.slice none 0 0, .slice none 0 0], []⟩).memory Tryz.f6.params.toList Rows.heapLostSpec.vars false (#[.slice none 0 0, .slice none 0 0] : Array Value).toList 8 = some ([.nil, .nil], [], places) :=
  ⟨[], by kernel_rfl⟩

set_option maxRecDepth 100000 in
theorem lifted (os : Os) (started : os.Started) (H : Type) (enc : TypeId × Value → H) (F : Stop.Interp) :
    ReturnsInHanded {} Tryz.checked os 6 .any ((Rows.OpenSpec.upto Rows.heapLostSpec).preRow enc Tryz.prog Tryz.f6 Rows.heapLostUptoRow.domain false Rows.heapLostUptoRow.laid) (((Rows.OpenSpec.upto Rows.heapLostSpec).at F).post enc Tryz.prog Tryz.f6 false true false false) := by
  obtain ⟨places, hx⟩ := reads os enc
  refine returnsInHanded_of_row (C := Tryz.checked) (s := Rows.OpenSpec.upto Rows.heapLostSpec) Tryz.own started (by kernel_rfl) Tryz.func6
    (witness_row_at (enc := enc) (C := Tryz.checked) false (laidWorld os) #[.slice none 0 0, .slice none 0 0] rfl (by kernel_rfl) (by kernel_rfl) (by kernel_rfl)
      (OpenSpec.preRow_of_cond 8 hx (by kernel_rfl) (fun k hk => by cases hk; kernel_rfl) (by kernel_rfl) (laid_met os _))) ?_
  intro W base args ds gs before hval hW _ hcond _ _ _ _
  exact contract H enc W base args ds gs before hval hW (hcond _ rfl)

theorem jA : (Rows.heapLostUptoRow.inPlace == Tryz.prog.inPlace 6) = true := by kernel_rfl
theorem jB : (Rows.heapLostUptoRow.unfollowed == Tryz.prog.unfollowed 6) = true := by kernel_rfl
theorem jC : (Rows.heapLostUptoRow.recurses == Tryz.prog.recurses 6) = true := by kernel_rfl
theorem jD : (Rows.heapLostUptoRow.named == Tryz.prog.varsNamed 6) = true := by kernel_rfl
theorem jE : laidOutB Tryz.prog = true := by kernel_rfl
theorem jF : mapsRowed Tryz.prog = true := by kernel_rfl
theorem jG : joinedFacts Tryz.prog 6 Tryz.f6 (Rows.OpenSpec.upto Rows.heapLostSpec).bare Rows.heapLostUptoRow = true := by
  unfold joinedFacts
  rw [jA, jB, jC, jD, jE, jF]
  kernel_rfl
theorem over : Rows.heapLostUptoRow.holds Tryz.pinned (Rows.OpenSpec.upto Rows.heapLostSpec) :=
  OpenClaim.holds_of_cond 6 Tryz.f6 rfl rfl rfl rfl rfl rfl rfl ⟨rfl, rfl, rfl, rfl, rfl⟩ rfl rfl rfl rfl rfl (by kernel_rfl) Tryz.func6 jG
    (of_decide_eq_true (by kernel_rfl)) (by unfold Func.isWrapper; first | (rw [if_pos (by decide +kernel)]; kernel_rfl) | (rw [if_neg (by decide +kernel)]; exact ⟨rfl, rfl⟩))
    (fun os started H enc _ F => by rw [OpenClaim.pre_eq_preRow]; exact lifted os started H enc F)

theorem plain (f : FuncId) (fn : Func) (hf : Tryz.pinned.checked.prog.funcNamed "annals/annalslaw08.HeapLost" = some f) (hfn : Tryz.pinned.checked.prog.funcs[f]? = some fn) :
    true = Tryz.pinned.checked.prog.looks [] ∧ ∀ (j : Nat) t, fn.params[j]? = some t → Tryz.pinned.checked.prog.wantsStandIn t = false := by
  obtain rfl : f = 6 := Option.some.inj ((show Tryz.prog.funcNamed "annals/annalslaw08.HeapLost" = some 6 by kernel_rfl).symm.trans hf) |>.symm
  obtain rfl : fn = Tryz.f6 := (Option.some.inj (Tryz.func6.symm.trans hfn)).symm
  refine ⟨by kernel_rfl, fun j t ht => ?_⟩
  rw [Tryz.params6] at ht
  have hall : ([54, 54] : List TypeId).all (fun t => !Tryz.prog.wantsStandIn t) = true := by kernel_rfl
  have := List.all_eq_true.1 hall t (by simpa using Array.mem_of_getElem? ht)
  exact (show Tryz.prog.wantsStandIn t = false by simpa using this)

theorem proved : Rows.HeapLostUptoCardSaid :=
  Claim7.holds_tied_plain_at .later [] _ _ _ _ over (fun _ h => by cases h) (by kernel_rfl) (fun _ h => by cases h) heapLostUpto_row_tie rfl ⟨rfl, rfl⟩ (by kernel_rfl) rfl plain (by kernel_rfl)
end Go.Proofs.YtiooeiapplnafaaGreatDoor.heapLost
