/- The law HeapFits of annalslaw08 holds (its card): for all arguments of bulk at most 1048576 the call returns true and the arguments read as before. Condition: the bound of the second form. -/
import Derived.Test.YtiooeiapplnafaaGreatDoorZHfBase16
set_option linter.unusedSimpArgs false
set_option linter.unusedVariables false
/- The statement HeapFits. Conditions: that what is handed in can be read; sizes. -/
namespace Go.Proofs.YtiooeiapplnafaaGreatDoor
open Go.RowKit
abbrev ridC (p : Int × Int) : List Value := [.int .i64 p.1, .int .i64 p.2]
abbrev ridR (p : Option Addr) (n c : Nat) (l : List (Int × Int)) : Assn := row (.slice p n c) 39 2 n (l.flatMap ridC)
theorem Hp.elemRid : ElemOk Tryz.prog 56 39 2 16 := .mk' (.agg #[.int .i64 0, .int .i64 0]) Tryz.underlying56 (by kernel_rfl) rfl (by omega)
structure Adding (h : HR) (c rm : Nat) (L : List (Int × Int)) : Prop where
  r : RInv h
  pages : h.pages = c
  room : h.room = rm
  act : h.act = [1]
  cm : h.cm = []
  last : h.last = 1
  at_ : AtL h (fun x => x = 0) L
theorem Adding.add {h : HR} {c rm : Nat} {L : List (Int × Int)} (a : Adding h c rm L) (hc : c ≤ 4096) (d : List UInt8) : Adding (addR' h 1 d).1 c rm L ∧ ((addR' h 1 d).2.2.2 = 0 → Adding (addR' h 1 d).1 c rm (L ++ [((addR' h 1 d).2.1, (addR' h 1 d).2.2.1)])) := by
  have hr := a.r.add (by rw [a.pages]; exact hc) (by rw [a.last]; decide) 1 d
  rcases add_cases h 1 d with ⟨h1, h2⟩ | ⟨q, h1, h2, h3, h4, h5⟩
  · exact ⟨by rw [h2]; exact a, fun e => absurd e h1⟩
  · rw [h5] at hr ⊢
    exact ⟨⟨hr, a.pages, a.room, a.act, by show (if (1 : Int) = 3 then h.cm ++ [((1 : Int), (0 : Int))] else h.cm) = []; rw [if_neg (by decide)]; exact a.cm, a.last, a.at_.app write_add_vs⟩, fun _ => ⟨hr, a.pages, a.room, a.act, by show (if (1 : Int) = 3 then h.cm ++ [((1 : Int), (0 : Int))] else h.cm) = []; rw [if_neg (by decide)]; exact a.cm, a.last, a.at_.snoc a.r rfl hr rfl⟩⟩
structure Ending (h : HR) (c rm : Nat) (t : Int) (ok : Int → Prop) (L : List (Int × Int)) : Prop where
  r : RInv h
  pages : h.pages = c
  room : h.room = rm
  act : h.act = [t]
  cm : h.cm = [(1, 1)]
  last : h.last = t
  at_ : AtL h ok L
theorem Ending.end_ {h : HR} {c rm : Nat} {t : Int} {ok : Int → Prop} {x : Int × Int} {L : List (Int × Int)} (a : Ending h c rm t ok (x :: L)) (hc : c ≤ 4096) (ht : 1 < t ∧ t < 2 ^ 62) (ho : ∀ z, ok z → z ≠ t ∧ z ≠ 1) (hu : h.used + 20 ≤ rm) : ∃ i, findV h.vs x.1 x.2 = some i ∧ endR h t x.1 x.2 = (writeR h (endE t x.1 x.2), 0) ∧ Ending (writeR h (endE t x.1 x.2)) c rm t ok L := by
  obtain ⟨i, v, h1, h2, h3, h4⟩ := a.at_.2 x (by simp)
  obtain ⟨o1, o2⟩ := ho _ h4
  have hac : isAct h t = true := by rw [isAct_iff, a.act]; simp
  have hcm : ∀ z, isCm h z = true ↔ z = 1 := fun z => by unfold isCm; rw [a.cm]; simp
  have he := hEnd_ok (h := h) (t := t) (p := x.1) (s := x.2) hac (v := v) (by rw [h1]; exact h2) (by
      rw [h3]
      rintro (⟨_, e⟩ | e | e)
      · have := (hcm 1).2 rfl; rw [this] at e; cases e
      · exact o1 e
      · exact o2 ((hcm _).1 e)) (by
      unfold isAct; rw [a.act]; simpa using o1) (by rw [a.room]; exact hu)
  have hr := a.r.end_ (by rw [a.pages]; exact hc) (by rw [a.last]; exact ht.2) t x.1 x.2
  rw [he] at hr
  refine ⟨i, h1, he, hr, a.pages, a.room, a.act, ?_, a.last, a.at_.ended⟩
  show (if (2 : Int) = 3 then h.cm ++ [(t, (0 : Int))] else h.cm) = _
  rw [if_neg (by decide)]; exact a.cm
theorem Adding.commit {h : HR} {c rm : Nat} {L : List (Int × Int)} (a : Adding h c rm L) (ok : Int → Prop) (h0 : ok 0) : (commitR h 1 1 = (h, 3) ∧ (rm : Int) < h.used + 25) ∨ ((commitR h 1 1).2 = 0 ∧ h.used + 25 ≤ rm ∧ (commitR h 1 1).1.used = h.used + 25 ∧ (commitR h 1 1).1.vs = h.vs ∧ (commitR h 1 1).1.act = [] ∧ (commitR h 1 1).1.cm = [(1, 1)] ∧ Ending (beginR (commitR h 1 1).1) c rm 2 ok L) := by
  have hac : isAct h 1 = true := by rw [isAct_iff, a.act]; simp
  have hb : badStamp h 1 = false := by unfold badStamp; rw [a.cm]; rfl
  by_cases hu : (rm : Int) < h.used + 25
  · refine .inl ⟨?_, hu⟩
    unfold commitR
    rw [if_pos hac, if_neg (by rw [hb]; simp), if_pos (by rw [a.room]; exact hu)]
  · right
    have he := hCm_ok (h := h) (t := 1) (s := 1) hac hb (by rw [a.room]; omega)
    have hr := a.r.commit (by rw [a.last]; decide) 1 1
    rw [he] at hr ⊢
    have hc : (writeR (withoutR h 1) (cmE 1 1)).cm = [(1, 1)] := by show (if (3 : Int) = 3 then h.cm ++ [((1 : Int), (1 : Int))] else h.cm) = _; rw [if_pos rfl, a.cm]; rfl
    have hA : (writeR (withoutR h 1) (cmE 1 1)).act = [] := by show h.act.filter _ = []; rw [a.act]; rfl
    refine ⟨rfl, by omega, ?_, rfl, hA, hc, ⟨hr.begin, a.pages, a.room, ?_, hc, ?_, ?_⟩⟩
    · show h.used + (enSz (cmE 1 1) : Int) = h.used + 25
      rw [sz3]; rfl
    · show (writeR (withoutR h 1) (cmE 1 1)).act ++ [h.last + 1] = [2]
      rw [hA, a.last]; rfl
    · show h.last + 1 = 2; rw [a.last]; rfl
    · refine ⟨a.at_.1, fun p hp => ?_⟩
      obtain ⟨i, v, h1, h2, h3, h4⟩ := a.at_.2 p hp
      exact ⟨i, v, h1, h2, h3, by rw [h4]; exact h0⟩
theorem fitsR_iff {h : HR} (r : RInv h) (ends : Int) (sizes : List Int) : fitsR h ends sizes = true ↔ 0 ≤ ends ∧ ends ≤ (h.room : Int) - h.used - 25 ∧ fitsP (roomsL h) ((h.room : Int) - h.used - 25 - 20 * ends) sizes = true := by
  rw [fits_eq ends sizes (by have := r.ok.used; omega)]
  simp only [Bool.and_eq_true, Bool.not_eq_true', Bool.or_eq_false_iff, decide_eq_false_iff_not]
  constructor
  · rintro ⟨⟨a, b⟩, c⟩; exact ⟨by omega, by omega, c⟩
  · rintro ⟨a, b, c⟩; exact ⟨⟨by omega, by omega⟩, c⟩
end Go.Proofs.YtiooeiapplnafaaGreatDoor

/- The statement HeapFits, the walk. Conditions: that what is handed in can be read; sizes. -/
namespace Go.Proofs.YtiooeiapplnafaaGreatDoor
open Go.RowKit
theorem fits_left {rooms l : List Int} {left : Int} (h : fitsP rooms left l = true) : 0 ≤ left := by
  by_cases hn : left < 0
  · rw [fitsP_neg _ _ _ hn] at h; cases h
  · omega
theorem bad0 {h : HR} (ht : isAct h 2 = true) (hc : h.cm = [(1, 1)]) : commitR h 2 0 = (h, 1) := by
  unfold commitR
  rw [if_pos ht, if_pos (by unfold badStamp; rw [hc]; rfl)]
set_option maxHeartbeats 16000000 in
set_option maxRecDepth 100000 in
theorem Hp.fitsLaw (B : Base) (sv : Value) (sc : List OpH) (hsv : RoLH B sv sc) (hsl : sc.length ≤ 1048576) (hdl : ∀ x ∈ sc, x.data.length ≤ 1048576) (zv : Value) (zs : List Int) (hz : RoS B zv (zs.map zV)) (hzl : zs.length ≤ 1048576) :
  Fn Tryz.prog B 5 #[sv, zv] [] (fun v l => v = .bool true ∧ l = []) := by
 obtain ⟨sa, scap, rfl, hsc⟩ := hsv
 have hz0 := hz
 obtain ⟨za, zc, e, hzc⟩ := hz
 rw [List.length_map] at e
 subst e
 refine Fn.enter2 125 Tryz.func5 rfl rfl (nB rfl) (fun F => ?_)
 try simp only [cA, nA]
 refine T.seq ?_
 refine T.region ?_
 refine LW.q rfl (Qt.assign rfl) ?_
 refine LW.done ?_
 refine T.seq ?_
 refine T.seq ?_
 refine T.region ?_
 refine LW.e rfl (Ef.call (Hp.awake B) Tryz.func15 rfl rfl rfl ?_)
 rintro _ _ ⟨rfl, rfl⟩
 try simp only [cA, nA]
 refine LW.q rfl (Qt.notB rfl) ?_
 refine LW.done ?_
 refine T.condF rfl ?_
 refine T.skip ?_
 refine T.seq ?_
 refine T.region ?_
 refine LW.e rfl (Ef.call (Hp.opened B 14 6 8 2 14 6 2 rfl rfl rfl (by omega) (by omega) rfl (by omega) (by omega) (by omega)) Tryz.func16 rfl rfl rfl ?_)
 rintro _ _ ⟨b, g, rfl, rfl⟩
 try simp only [cA, nA]
 refine LW.q rfl (Qt.move rfl) ?_
 refine LW.q rfl (Qt.extr rfl rfl) ?_
 refine LW.q rfl (Qt.extr rfl rfl) ?_
 refine LW.q rfl (Qt.extr rfl rfl) ?_
 refine LW.q rfl (Qt.assign rfl) ?_
 refine LW.q rfl (Qt.assign rfl) ?_
 refine LW.q rfl (Qt.assign rfl) ?_
 refine LW.done ?_
 refine T.seq ?_
 refine T.seq ?_
 refine T.region ?_
 refine LW.q rfl (Qt.move rfl) ?_
 refine LW.q rfl (Qt.eqlNil (by kernel_rfl) rfl rfl) ?_
 refine LW.q rfl (Qt.move rfl) ?_
 refine LW.gF (t := 30) rfl rfl ?_
 refine LW.q rfl (Qt.move rfl) ?_
 refine LW.q rfl (Qt.eqlNil (by kernel_rfl) rfl rfl) ?_
 refine LW.q rfl (Qt.pick rfl rfl) ?_
 refine LW.done ?_
 refine T.condF rfl ?_
 refine T.skip ?_
 refine T.seq ?_
 refine T.region ?_
 refine LW.q rfl (Qt.move rfl) ?_
 refine LW.q rfl (Qt.nilCheck rfl) ?_
 refine LW.q rfl (Qt.fieldAddr0 (by kernel_rfl) rfl) ?_
 refine LW.e rfl (Ef.call (Hp.begin B g b 6 8 2 8 (newR 8 (6 * 256)) (by omega)) Tryz.func17 rfl rfl rfl ?_)
 rintro _ _ ⟨rfl, rfl⟩
 try simp only [cA, nA]
 rw [show (newR 8 (6 * 256)).last + 1 = 1 from rfl]
 refine LW.q rfl (Qt.assign rfl) ?_
 refine LW.done ?_
 refine T.seq ?_
 refine T.region ?_
 refine LW.q rfl (Qt.assign rfl) ?_
 refine LW.done ?_
 refine T.seq ?_
 refine T.region ?_
 refine LW.q rfl (Qt.assign rfl) ?_
 refine LW.done ?_
 refine T.seq ?_
 refine T.seq ?_
 refine T.region ?_
 refine LW.q rfl (Qt.move rfl) ?_
 refine LW.q rfl (Qt.len (e := 60) (sz := 9) (by kernel_rfl) rfl) ?_
 refine LW.q rfl (Qt.move rfl) ?_
 refine LW.done ?_
 refine T.block ?_
 have hA0 : Adding (beginR (newR 8 (6 * 256))) 8 1536 [] := ⟨(RInv.newR 8 (6 * 256)).begin, rfl, rfl, rfl, rfl, rfl, by simp, by simp⟩
 refine T.conv (l' := ridR none 0 0 [] :: _) (fun w ho => ho.row_nil _ _) ?_
 refine T.loop (fun mz fz lz => ∃ (f0 : Fr) (k : Nat) (h : HR) (L : List (Int × Int)) (p : Option Addr) (c n : Nat), (k ≤ sc.length ∧ Adding h 8 1536 L ∧ L.length = n ∧ n ≤ k) ∧ mz = sc.length - k ∧ fz = (upd (upd (upd (upd (upd (upd (upd (upd (upd f0 0 (.slice sa sc.length scap)) 1 (.slice za zs.length zc)) 6 (pV g)) 8 (.int .i64 1)) 9 (.int .i64 1)) 10 (.slice p n c)) 38 (.slice sa sc.length scap)) 39 (.int .i64 sc.length)) 40 (.int .i64 k)) ∧ lz = hpA g b 6 8 2 (9 + 9 * k) h :: ridR p n c L :: F) ?_ ?_
 · refine ⟨_, _, ⟨_, 0, beginR (newR 8 (6 * 256)), [], none, 0, 0, ⟨Nat.zero_le _, hA0, rfl, Nat.le_refl _⟩, rfl, (updS rfl (updS rfl (updS rfl (updS rfl (updS rfl (updS rfl (updS rfl (updS rfl (updS rfl rfl))))))))), rfl⟩, Sub.any⟩
 ·
  rintro mz fz lz ⟨f0, k, h, L, p, c, n, ⟨hk, hA, hn, hnk⟩, hmz, rfl, rfl⟩
  subst mz
  try simp only [cA, nA]
  refine T.seq ?_
  refine T.region ?_
  refine LW.q rfl (Qt.lss rfl rfl) ?_
  refine LW.done ?_
  refine T.seq ?_
  refine T.condP rfl (fun hlt => ?_) (fun hlt => ?_)
  ·
   obtain ⟨kb, ko, C, rfl, hro, hC⟩ := hsc.resolve_left (by intro e; rw [e] at hlt; simp at hlt; omega)
   obtain ⟨da, dc, ka, kc, hrd, hdv, hkv⟩ := hC k (by omega)
   have hxl := hdl sc[k] (List.getElem_mem _)
   obtain ⟨hA1, hA2⟩ := hA.add (by omega) sc[k].data
   refine T.skip ?_
   refine T.seq ?_
   refine T.block ?_
   refine T.seq ?_
   refine T.region ?_
   refine LW.q rfl (Qt.index _ (e := 60) (sz := 9) (by kernel_rfl) rfl rfl rfl (by omega)) ?_
   refine LW.q rfl (Qt.loadAgg [_, _, _, _, _, _, _, _, _] (by kernel_rfl) rfl hrd) ?_
   refine LW.e rfl (Ef.alloc [.int .i64 0, .int .i64 0, .int .i64 0, .int .i64 0, .slice none 0 0, .int .i64 0, .slice none 0 0, .int .i64 0, .int .i64 0] (by unfold zeroB; kernel_rfl) ?_)
   intro g12
   refine LW.e0 rfl (Ef.store [_, _, _, _, _, _, _, _, _] (by kernel_rfl) rfl rfl rfl rfl (by simp) ?_)
   try simp only [splice, lC, lN, dS, cA, tS, tZ, dZ, nA, aN]
   refine LW.done ?_
   refine T.seq ?_
   refine T.region ?_
   refine LW.q rfl (Qt.move rfl) ?_
   refine LW.q rfl (Qt.move rfl) ?_
   refine LW.q rfl (Qt.fieldAddr (off := 4) (by kernel_rfl) rfl) ?_
   refine LW.q rfl (Qt.load (by kernel_rfl) rfl rfl) ?_
   refine LW.e rfl (Ef.call (Hp.add B [] g b 6 8 2 (9 + 9 * k) h (by omega) 1 da dc sc[k].data (hdv.rd _) (by omega)) Tryz.func18 rfl rfl rfl ?_)
   rintro _ _ ⟨rfl, rfl⟩
   try simp only [cA, nA]
   rw [show 9 + 9 * k + 8 + 1 = 9 + 9 * (k + 1) by omega]
   refine LW.q rfl (Qt.move rfl) ?_
   refine LW.q rfl (Qt.extr rfl rfl) ?_
   refine LW.q rfl (Qt.extr rfl rfl) ?_
   refine LW.e rfl (Ef.alloc [.int .i64 0, .int .i64 0] (by unfold zeroB; kernel_rfl) ?_)
   intro g13
   refine LW.e0 rfl (Ef.store [_, _] (by kernel_rfl) rfl rfl rfl rfl (by simp) ?_)
   try simp only [splice, lC, lN, dS, cA, tS, tZ, dZ, nA, aN]
   refine LW.q rfl (Qt.assign rfl) ?_
   refine LW.done ?_
   refine T.seq ?_
   refine T.region ?_
   refine LW.q rfl (Qt.move rfl) ?_
   refine LW.q rfl (Qt.eql rfl rfl) ?_
   refine LW.q rfl (Qt.move rfl) ?_
   refine LW.split (t := 54) rfl (fun he => ?_) (fun he => ?_)
   ·
    try replace he := of_decide_eq_true he
    refine LW.q rfl (Qt.fieldAddr0 (by kernel_rfl) rfl) ?_
    refine LW.q rfl (Qt.load (by kernel_rfl) rfl rfl) ?_
    refine LW.q rfl (Qt.eql rfl rfl) ?_
    refine LW.q rfl (Qt.pick rfl rfl) ?_
    refine LW.done ?_
    refine T.condP rfl (fun hkd => ?_) (fun hkd => ?_)
    ·
     refine T.region ?_
     refine LW.q rfl (Qt.move rfl) ?_
     refine LW.q rfl (Qt.loadAgg [_, _] (by kernel_rfl) rfl ⟨rfl, rfl, trivial⟩) ?_
     refine LW.e rfl (Ef.one [_, _] (e := 39) (sz := 2) (by kernel_rfl) ⟨.agg #[.int .i64 0, .int .i64 0], by kernel_rfl, rfl⟩ rfl rfl rfl (by omega) (by omega) ?_)
     intro g61
     refine LW.e rfl (Ef.append Hp.elemRid rfl rfl (SrcOf.blk (by kernel_rfl) rfl (by simp [Value.oneCell'])) (by unfold maxLen; omega) (by omega) ?_)
     rintro p2 c2 hp2
     try simp only [cA, nA]
     rw [flat_snoc ridC L ((addR' h 1 sc[k].data).2.1, (addR' h 1 sc[k].data).2.2.1)]
     refine LW.q rfl (Qt.assign rfl) ?_
     refine LW.done ?_
     refine T.region ?_
     refine LW.q rfl (Qt.add rfl rfl (wr64 (by omega) (by omega))) ?_
     refine LW.q rfl (Qt.move rfl) ?_
     refine LW.done ?_
     refine ⟨_, ?_, _, ⟨_, k + 1, (addR' h 1 sc[k].data).1, L ++ [((addR' h 1 sc[k].data).2.1, (addR' h 1 sc[k].data).2.2.1)], p2, c2, n + 1, ⟨by omega, hA2 he, by simp [hn], by omega⟩, rfl, (updS rfl (updS rfl (updS rfl (updS rfl (updS rfl (updS rfl (updS rfl (updS rfl (updS rfl rfl))))))))), rfl⟩, Sub.any⟩
     omega
    ·
     refine T.skip ?_
     refine T.region ?_
     refine LW.q rfl (Qt.add rfl rfl (wr64 (by omega) (by omega))) ?_
     refine LW.q rfl (Qt.move rfl) ?_
     refine LW.done ?_
     refine ⟨_, ?_, _, ⟨_, k + 1, (addR' h 1 sc[k].data).1, L, p, c, n, ⟨by omega, hA1, hn, by omega⟩, rfl, (updS rfl (updS rfl (updS rfl (updS rfl (updS rfl (updS rfl (updS rfl (updS rfl (updS rfl rfl))))))))), rfl⟩, Sub.any⟩
     omega
   ·
    try replace he := of_decide_eq_false he
    refine LW.s rfl ?_
    refine LW.s rfl ?_
    refine LW.s rfl ?_
    refine LW.q rfl (Qt.pick rfl rfl) ?_
    refine LW.done ?_
    refine T.condF rfl ?_
    refine T.skip ?_
    refine T.region ?_
    refine LW.q rfl (Qt.add rfl rfl (wr64 (by omega) (by omega))) ?_
    refine LW.q rfl (Qt.move rfl) ?_
    refine LW.done ?_
    refine ⟨_, ?_, _, ⟨_, k + 1, (addR' h 1 sc[k].data).1, L, p, c, n, ⟨by omega, hA1, hn, by omega⟩, rfl, (updS rfl (updS rfl (updS rfl (updS rfl (updS rfl (updS rfl (updS rfl (updS rfl (updS rfl rfl))))))))), rfl⟩, Sub.any⟩
    omega
  ·
   obtain rfl : k = sc.length := by omega
   obtain ⟨K, hKe⟩ : ∃ K, 9 + 9 * sc.length = K := ⟨_, rfl⟩
   rw [hKe]
   have hrm := hA.room
   have hpg := hA.pages
   have hr0 := hA.r
   have hcm0 := hA.cm
   have hu0 := hA.r.ok.used
   refine T.exit ?_
   refine T.seq ?_
   refine T.seq ?_
   refine T.region ?_
   refine LW.q rfl (Qt.move rfl) ?_
   refine LW.q rfl (Qt.move rfl) ?_
   refine LW.q rfl (Qt.move rfl) ?_
   refine LW.e rfl (Ef.call (Hp.commit B g b 6 8 2 K h (by omega) 1 1 (by rw [hcm0]; simp)) Tryz.func20 rfl rfl rfl ?_)
   rintro _ _ ⟨rfl, rfl⟩
   try simp only [cA, nA]
   by_cases hbad : (1536 : Int) < h.used + 25
   ·
    have hcr : commitR h 1 1 = (h, 3) := by
     rcases hA.commit (fun x => x = 0) rfl with ⟨e, _⟩ | ⟨_, e, _⟩
     · exact e
     · omega
    rw [hcr]
    refine LW.q rfl (Qt.neq rfl rfl) ?_
    refine LW.done ?_
    refine T.condT rfl ?_
    have hff : fitsR h 0 [] = false := by
     rw [Bool.eq_false_iff]
     intro e
     have := (fitsR_iff hr0 0 []).1 e
     rw [hrm] at this
     omega
    refine T.seq ?_
    refine T.region ?_
    refine LW.q rfl (Qt.move rfl) ?_
    refine LW.e rfl (Ef.call (Hp.fits B [] g b 6 8 2 K h (by omega) (by omega) 0 (by omega) none 0 0 [] (RdV.nil _ 0) rfl (by omega)) Tryz.func24 rfl rfl rfl ?_)
    rintro _ _ ⟨rfl, rfl⟩
    try simp only [cA, nA]
    rw [hff]
    refine LW.q rfl (Qt.notB rfl) ?_
    refine LW.q rfl (Qt.assign rfl) ?_
    refine LW.done ?_
    refine T.ret ?_
    exact ⟨.inl rfl, _, _, res [_] rfl ⟨rvT rfl, trivial⟩, ⟨rfl, rfl⟩, Sub.any⟩
   ·
    obtain ⟨h1, hh1⟩ : ∃ h1, (commitR h 1 1).1 = h1 := ⟨_, rfl⟩
    obtain ⟨e1, e2, e3, e4, e5, e6, hE⟩ : (commitR h 1 1).2 = 0 ∧ h.used + 25 ≤ (1536 : Nat) ∧ h1.used = h.used + 25 ∧ h1.vs = h.vs ∧ h1.act = [] ∧ h1.cm = [(1, 1)] ∧ Ending (beginR h1) 8 1536 2 (fun x => x = 0) L := by
     rcases hA.commit (fun x => x = 0) rfl with ⟨_, e⟩ | e
     · omega
     · rw [hh1] at e; exact e
    rw [e1, hh1]
    refine LW.q rfl (Qt.neq rfl rfl) ?_
    refine LW.done ?_
    refine T.condF rfl ?_
    refine T.skip ?_
    refine T.seq ?_
    refine T.region ?_
    refine LW.q rfl (Qt.move rfl) ?_
    refine LW.q rfl (Qt.nilCheck rfl) ?_
    refine LW.q rfl (Qt.fieldAddr0 (by kernel_rfl) rfl) ?_
    refine LW.e rfl (Ef.call (Hp.begin B g b 6 8 2 K h1 (by omega)) Tryz.func17 rfl rfl rfl ?_)
    rintro _ _ ⟨rfl, rfl⟩
    try simp only [cA, nA]
    rw [show h1.last + 1 = 2 from hE.last]
    refine LW.q rfl (Qt.assign rfl) ?_
    refine LW.done ?_
    refine T.seq ?_
    refine T.seq ?_
    refine T.region ?_
    refine LW.q rfl (Qt.move rfl) ?_
    refine LW.q rfl (Qt.move rfl) ?_
    refine LW.q rfl (Qt.len (e := 39) (sz := 2) (by kernel_rfl) rfl) ?_
    refine LW.q rfl (Qt.move rfl) ?_
    obtain ⟨h2, hh2⟩ : ∃ h2, beginR h1 = h2 := ⟨_, rfl⟩
    rw [hh2] at hE
    rw [hh2]
    have hac2 : isAct h2 2 = true := by rw [isAct_iff, hE.act]; simp
    refine LW.e rfl (Ef.call (Hp.fits B [] g b 6 8 2 (K + 1) h2 (by omega) (by omega) n (by omega) za zs.length zc zs (hz0.rd _) rfl (by omega)) Tryz.func24 rfl rfl rfl ?_)
    rintro _ _ ⟨rfl, rfl⟩
    try simp only [cA, nA]
    by_cases hf : fitsR h2 n zs = true
    ·
     rw [hf]
     obtain ⟨f1, f2, f3⟩ := (fitsR_iff hE.r n zs).1 hf
     rw [hE.room] at f2 f3
     refine LW.q rfl (Qt.notB rfl) ?_
     refine LW.done ?_
     refine T.condF rfl ?_
     refine T.skip ?_
     refine T.seq ?_
     refine T.seq ?_
     refine T.region ?_
     refine LW.q rfl (Qt.move rfl) ?_
     refine LW.q rfl (Qt.len (e := 39) (sz := 2) (by kernel_rfl) rfl) ?_
     refine LW.q rfl (Qt.move rfl) ?_
     refine LW.done ?_
     refine T.block ?_
     refine T.loop (fun mz fz lz => ∃ (f0 : Fr) (j : Nat) (h : HR), (j ≤ n ∧ Ending h 8 1536 2 (fun x => x = 0) (L.drop j) ∧ fitsP (roomsL h) (1536 - h.used - 25 - 20 * (n - j)) zs = true) ∧ mz = n - j ∧ fz = (upd (upd (upd (upd (upd (upd f0 1 (.slice za zs.length zc)) 6 (pV g)) 8 (.int .i64 2)) 86 (.slice p n c)) 87 (.int .i64 n)) 88 (.int .i64 j)) ∧ lz = hpA g b 6 8 2 (K + 1 + 8 + 2 * j) h :: ridR p n c L :: F) ?_ ?_
     · refine ⟨_, _, ⟨_, 0, h2, ⟨Nat.zero_le _, hE, by simpa using f3⟩, rfl, (updS rfl (updS rfl (updS rfl (updS rfl (updS rfl (updS rfl rfl)))))), rfl⟩, Sub.any⟩
     ·
      rintro mz fz lz ⟨f0, j, h, ⟨hj, hEj, hfj⟩, hmz, rfl, rfl⟩
      subst mz
      try simp only [cA, nA]
      refine T.seq ?_
      refine T.region ?_
      refine LW.q rfl (Qt.lss rfl rfl) ?_
      refine LW.done ?_
      refine T.seq ?_
      refine T.condP rfl (fun hlt2 => ?_) (fun hlt2 => ?_)
      ·
       refine T.own fun w ho => ?_
       obtain ⟨gp, rfl⟩ : ∃ g, p = some ⟨g, 0, none⟩ := ((ho.map Sub.any : Own B w [ridR p n c L]).slice_at (p := p) (m := n) (c := c)).2.1 (by omega)
       clear ho
       obtain ⟨x, hx⟩ : ∃ x, L[j]'(by omega) = x := ⟨_, rfl⟩
       have hdr : L.drop j = x :: L.drop (j + 1) := by rw [List.drop_eq_getElem_cons (by omega), hx]
       rw [hdr] at hEj
       have hleft := fits_left hfj
       obtain ⟨i0, hi0, hen, hE2⟩ := hEj.end_ (by omega) (by omega) (fun z hz => by omega) (by omega)
       refine T.skip ?_
       refine T.seq ?_
       refine T.block ?_
       refine T.seq ?_
       refine T.region ?_
       refine LW.q rfl (Qt.index _ (e := 39) (sz := 2) (by kernel_rfl) rfl rfl rfl (by omega)) ?_
       refine LW.q rfl (Qt.loadAgg [.int .i64 x.1, .int .i64 x.2] (by kernel_rfl) rfl (by rw [show [Value.int .i64 x.1, .int .i64 x.2] = ridC (L[j]'(by omega)) by rw [hx]]; exact rdl_flat _ _ _ (by intros; rfl) _ (by omega))) ?_
       refine LW.e rfl (Ef.alloc [.int .i64 0, .int .i64 0] (by unfold zeroB; kernel_rfl) ?_)
       intro g16
       refine LW.e0 rfl (Ef.store [_, _] (by kernel_rfl) rfl rfl rfl rfl (by simp) ?_)
       try simp only [splice, lC, lN, dS, cA, tS, tZ, dZ, nA, aN]
       refine LW.done ?_
       refine T.seq ?_
       refine T.region ?_
       refine LW.q rfl (Qt.move rfl) ?_
       refine LW.q rfl (Qt.move rfl) ?_
       refine LW.q rfl (Qt.loadAgg [_, _] (by kernel_rfl) rfl ⟨rfl, rfl, trivial⟩) ?_
       refine LW.e rfl (Ef.call (Hp.end_ B g b 6 8 2 (K + 1 + 8 + 2 * j) h (by omega) 2 x.1 x.2) Tryz.func22 rfl rfl rfl ?_)
       rintro _ _ ⟨rfl, rfl⟩
       try simp only [cA, nA]
       rw [hen, show K + 1 + 8 + 2 * j + 2 = K + 1 + 8 + 2 * (j + 1) by omega]
       refine LW.q rfl (Qt.neq rfl rfl) ?_
       refine LW.done ?_
       refine T.condF rfl ?_
       refine T.skip ?_
       refine T.region ?_
       refine LW.q rfl (Qt.add rfl rfl (wr64 (by omega) (by omega))) ?_
       refine LW.q rfl (Qt.move rfl) ?_
       refine LW.done ?_
       refine ⟨_, ?_, _, ⟨_, j + 1, writeR h (endE 2 x.1 x.2), ⟨by omega, hE2, by rw [rooms_end hi0, write_end_used]; rw [show (1536 : Int) - (h.used + 20) - 25 - 20 * ((n : Int) - ((j + 1 : Nat) : Int)) = 1536 - h.used - 25 - 20 * ((n : Int) - (j : Int)) by omega]; exact hfj⟩, rfl, (updS rfl (updS rfl (updS rfl (updS rfl (updS rfl (updS rfl rfl)))))), rfl⟩, Sub.any⟩
       omega
      ·
       obtain rfl : j = n := by omega
       rw [List.drop_of_length_le (by omega)] at hEj
       have hac3 : isAct h 2 = true := by rw [isAct_iff, hEj.act]; simp
       have hf0 : fitsP (roomsL h) (h.room - h.used - 25) (zs.drop 0) = true := by rw [hEj.room, List.drop_zero]; rw [show (1536 : Int) - h.used - 25 - 20 * ((j : Int) - j) = ((1536 : Nat) : Int) - h.used - 25 by omega] at hfj; exact hfj
       obtain ⟨K2, hK2⟩ : ∃ K2, K + 1 + 8 + 2 * j = K2 := ⟨_, rfl⟩
       rw [hK2]
       refine T.exit ?_
       refine T.seq ?_
       refine T.seq ?_
       refine T.region ?_
       refine LW.q rfl (Qt.move rfl) ?_
       refine LW.q rfl (Qt.len (e := 3) (sz := 1) (by kernel_rfl) rfl) ?_
       refine LW.q rfl (Qt.move rfl) ?_
       refine LW.done ?_
       refine T.block ?_
       refine T.loop (fun mz fz lz => ∃ (f0 : Fr) (i : Nat) (h : HR), (i ≤ zs.length ∧ isAct h 2 = true ∧ h.cm = [(1, 1)] ∧ fitsP (roomsL h) (h.room - h.used - 25) (zs.drop i) = true) ∧ mz = zs.length - i ∧ fz = (upd (upd (upd (upd (upd f0 6 (pV g)) 8 (.int .i64 2)) 98 (.slice za zs.length zc)) 99 (.int .i64 zs.length)) 100 (.int .i64 i)) ∧ lz = hpA g b 6 8 2 (K2 + 9 * i) h :: F) ?_ ?_
       · refine ⟨_, _, ⟨_, 0, h, ⟨Nat.zero_le _, hac3, hEj.cm, hf0⟩, rfl, (updS rfl (updS rfl (updS rfl (updS rfl (updS rfl rfl))))), rfl⟩, Sub.any⟩
       ·
        rintro mz fz lz ⟨f0, i, h, ⟨hi, hac4, hcm4, hf4⟩, hmz, rfl, rfl⟩
        subst mz
        try simp only [cA, nA]
        refine T.seq ?_
        refine T.region ?_
        refine LW.q rfl (Qt.lss rfl rfl) ?_
        refine LW.done ?_
        refine T.seq ?_
        refine T.condP rfl (fun hlt3 => ?_) (fun hlt3 => ?_)
        ·
         obtain ⟨z, hzz⟩ : ∃ z, zs[i]'(by omega) = z := ⟨_, rfl⟩
         have hdr : zs.drop i = z :: zs.drop (i + 1) := by rw [List.drop_eq_getElem_cons (by omega), hzz]
         rw [hdr] at hf4
         obtain ⟨z0, z1, q, hadd, hf5⟩ := fits_step hac4 hf4
         obtain ⟨m, rfl⟩ : ∃ m : Nat, z = m := ⟨z.toNat, by omega⟩
         rw [Int.toNat_natCast] at hadd hf5
         obtain ⟨D, hD, rfl⟩ : ∃ D : List UInt8, List.replicate m 0 = D ∧ m = D.length := ⟨_, rfl, by simp⟩
         rw [hD] at hadd hf5
         obtain ⟨kb, ko, C, rfl, hro, hC⟩ := hzc.resolve_left (by intro e; have e2 := congrArg List.length e; rw [List.length_map, List.length_nil] at e2; omega)
         have hzi : (zs.map zV)[i]? = some (zV D.length) := by rw [List.getElem?_map, List.getElem?_eq_getElem (show i < zs.length by omega), hzz]; rfl
         refine T.skip ?_
         refine T.seq ?_
         refine T.block ?_
         refine T.seq ?_
         refine T.region ?_
         refine LW.q rfl (Qt.index _ (e := 3) (sz := 1) (by kernel_rfl) rfl rfl rfl (by omega)) ?_
         refine LW.q rfl (Qt.load (v := .int .i64 D.length) (by kernel_rfl) rfl (hC i _ hzi)) ?_
         refine LW.q rfl (Qt.assign rfl) ?_
         refine LW.done ?_
         refine T.seq ?_
         refine T.seq ?_
         refine T.region ?_
         refine LW.q rfl (Qt.move rfl) ?_
         refine LW.q rfl (Qt.lss rfl rfl) ?_
         refine LW.q rfl (Qt.move rfl) ?_
         refine LW.gF (t := 106) rfl rfl ?_
         refine LW.q rfl (Qt.move rfl) ?_
         refine LW.q rfl (Qt.gtr rfl rfl) ?_
         refine LW.q rfl (Qt.pick rfl rfl) ?_
         refine LW.done ?_
         refine T.condPF rfl (by omega) ?_
         refine T.skip ?_
         refine T.seq ?_
         refine T.region ?_
         refine LW.q rfl (Qt.move rfl) ?_
         refine LW.q rfl (Qt.move rfl) ?_
         refine LW.q rfl (Qt.move rfl) ?_
         refine LW.e rfl (Ef.make D.length (.int .u8 0) 1 Cd.elemB (by kernel_rfl) rfl rfl rfl rfl (by omega) (by unfold maxLen; omega) ?_)
         rintro gz
         try simp only [cA, nA]
         rw [made_bytes D.length, hD]
         refine LW.e rfl (Ef.call (Hp.add B [rB (.slice (some ⟨gz, 0, none⟩) D.length D.length) D.length D] g b 6 8 2 (K2 + 9 * i) h (by omega) 2 (some ⟨gz, 0, none⟩) D.length D (RdV.rB rfl (fun _ => ⟨_, rfl⟩)) (by omega)) Tryz.func18 rfl rfl rfl ?_)
         rintro _ _ ⟨rfl, rfl⟩
         try simp only [cA, nA]
         rw [hadd, show K2 + 9 * i + 8 + 1 = K2 + 9 * (i + 1) by omega]
         refine LW.q rfl (Qt.move rfl) ?_
         refine LW.q rfl (Qt.extr rfl rfl) ?_
         refine LW.q rfl (Qt.extr rfl rfl) ?_
         refine LW.e rfl (Ef.alloc [.int .i64 0, .int .i64 0] (by unfold zeroB; kernel_rfl) ?_)
         intro g19
         refine LW.e0 rfl (Ef.store [_, _] (by kernel_rfl) rfl rfl rfl rfl (by simp) ?_)
         try simp only [splice, lC, lN, dS, cA, tS, tZ, dZ, nA, aN]
         refine LW.q rfl (Qt.assign rfl) ?_
         refine LW.done ?_
         refine T.seq ?_
         refine T.region ?_
         refine LW.q rfl (Qt.move rfl) ?_
         refine LW.q rfl (Qt.neq rfl rfl) ?_
         refine LW.done ?_
         refine T.condF rfl ?_
         refine T.skip ?_
         refine T.region ?_
         refine LW.q rfl (Qt.add rfl rfl (wr64 (by omega) (by omega))) ?_
         refine LW.q rfl (Qt.move rfl) ?_
         refine LW.done ?_
         refine ⟨_, ?_, _, ⟨_, i + 1, writeR h (addE h 2 D q), ⟨by omega, hac4, hcm4, hf5⟩, rfl, (updS rfl (updS rfl (updS rfl (updS rfl (updS rfl rfl))))), rfl⟩, Sub.any⟩
         omega
        ·
         obtain rfl : i = zs.length := by omega
         rw [List.drop_length] at hf4
         have hlf := fits_left hf4
         have hcr : commitR h 2 2 = (writeR (withoutR h 2) (cmE 2 2), 0) := hCm_ok hac4 (by unfold badStamp; rw [hcm4]; rfl) (by omega)
         refine T.exit ?_
         refine T.seq ?_
         refine T.region ?_
         refine LW.q rfl (Qt.move rfl) ?_
         refine LW.q rfl (Qt.move rfl) ?_
         refine LW.e rfl (Ef.call (Hp.commit B g b 6 8 2 (K2 + 9 * zs.length) h (by omega) 2 2 (by rw [hcm4]; simp)) Tryz.func20 rfl rfl rfl ?_)
         rintro _ _ ⟨rfl, rfl⟩
         try simp only [cA, nA]
         rw [hcr]
         refine LW.q rfl (Qt.eql rfl rfl) ?_
         refine LW.q rfl (Qt.assign rfl) ?_
         refine LW.done ?_
         refine T.ret ?_
         exact ⟨.inl rfl, _, _, res [_] rfl ⟨rvT rfl, trivial⟩, ⟨rfl, rfl⟩, Sub.any⟩
    ·
     rw [Bool.not_eq_true] at hf
     rw [hf]
     refine LW.q rfl (Qt.notB rfl) ?_
     refine LW.done ?_
     refine T.condT rfl ?_
     refine T.seq ?_
     refine T.region ?_
     refine LW.q rfl (Qt.move rfl) ?_
     refine LW.q rfl (Qt.move rfl) ?_
     refine LW.e rfl (Ef.call (Hp.commit B g b 6 8 2 (K + 1 + 8) h2 (by omega) 2 0 (by rw [hE.cm]; simp)) Tryz.func20 rfl rfl rfl ?_)
     rintro _ _ ⟨rfl, rfl⟩
     try simp only [cA, nA]
     rw [bad0 hac2 hE.cm]
     refine LW.q rfl (Qt.eql rfl rfl) ?_
     refine LW.q rfl (Qt.assign rfl) ?_
     refine LW.done ?_
     refine T.ret ?_
     exact ⟨.inl rfl, _, _, res [_] rfl ⟨rvT rfl, trivial⟩, ⟨rfl, rfl⟩, Sub.any⟩
end Go.Proofs.YtiooeiapplnafaaGreatDoor

/- The law HeapFits of annalslaw08 holds (its card): for all arguments of bulk at most 1048576 the call returns true and the arguments read as before. Condition: the bound of the second form. -/
namespace Go.Proofs.YtiooeiapplnafaaGreatDoor.heapFits
open Go.ChangeShapes Go.WideShapes Go.ChangeAt Go.RowKit

set_option maxRecDepth 100000 in
theorem contract (H : Type) (enc : TypeId × Value → H) (W : World) (base : Nat) (args : Array Value) (ds gs : List (DataW H)) (before : List MemPlace)
    (hval : ∀ (j : Nat) t v, Tryz.f5.params[j]? = some t → args[j]? = some v → Value.okWide Tryz.prog W .any base t v)
    (hW : DataW.Whole enc Tryz.prog Tryz.f5.params.toList Rows.heapFitsSpec.vars false W args.toList ds gs before) (hk : Rows.uptoSmall H (ds ++ gs) = true) :
    Calls Tryz.prog 5 args W fun e W' => ∃ v, e = .returned v ∧ Rows.heapFitsSpec.post enc Tryz.prog Tryz.f5 false true false false W args v W' := by
  have hW0 := hW
  obtain ⟨p, q, hA0, hV, rfl, hfz, hnd⟩ := hW
  have hA : DataW.TrodAll enc Tryz.prog W 0 (fun _ => true) true Tryz.f5.params.toList args.toList ds p := hA0
  rw [Tryz.params5] at hA hval
  obtain ⟨v0, v1, d0, d1, p0, p1, rfl, rfl, rfl, h0, h1⟩ := trodAll_two hA
  obtain ⟨rfl, rfl⟩ := trodVars_none hV
  have hbulk := Tryz.upto_bound hk
  rw [List.append_nil] at hbulk
  clear hA0 hV hk
  obtain ⟨sa0, sl0, sc0, rfl⟩ := okWide_slice Tryz.underlying54 (hval 0 54 v0 rfl rfl)
  obtain ⟨fu0, t0⟩ := h0
  obtain ⟨sv0, l0, hc0, hs0, hB0, hL0⟩ := open_slice_R (enc := enc) (P := Tryz.prog) (W := W) (R := OpHR W) (B := fun o => o.data.length + o.keep.length + 2) Tryz.underlying54 (show Tryz.prog.cellsOf 60 = 9 by kernel_rfl) (by omega) (fun n cs y => read_opH n cs y) t0
  simp only [Value.cells, List.cons.injEq, and_true] at hc0
  subst hc0
  dsimp only at hB0 hL0
  obtain ⟨sa1, sl1, sc1, rfl⟩ := okWide_slice Tryz.underlying55 (hval 1 55 v1 rfl rfl)
  obtain ⟨fu1, t1⟩ := h1
  obtain ⟨sv1, l1, hc1, hs1, hB1, hL1⟩ := open_slice_R (enc := enc) (P := Tryz.prog) (W := W) (R := fun cs (a : Int) => cs = [.int .i64 a]) (B := fun _ => 1) Tryz.underlying55 (show Tryz.prog.cellsOf 3 = 1 by kernel_rfl) (by omega) (fun n cs y h => by obtain ⟨a, ⟨e, _⟩, b⟩ := read_i64 Tryz.underlying3 n cs y h; exact ⟨a, e, b⟩) t1
  simp only [Value.cells, List.cons.injEq, and_true] at hc1
  subst hc1
  dsimp only at hB1 hL1
  obtain ⟨fp1, hR1, hfp1⟩ := hs1.reads (fun a : Int => Value.int .i64 a) (fun cs a h => h)
  rw [bulk_two] at hbulk

  refine (Fn.law (Hp.fitsLaw _ _ l0 hs0.roLH (by omega) (fun x hx => by have := opH_le hx; omega) _ l1 (RoS.ofReads hR1) (by omega))).mono fun e W' ⟨he, hg⟩ => ?_
  subst he
  exact ⟨_, rfl, post_law Tryz.laidOut hW0 rfl rfl 4 Tryz.underlying4 (by kernel_rfl) (by rw [Tryz.params5]; decide +kernel) hg.toBelow⟩

theorem reads (os : Os) {H : Type} (enc : TypeId × Value → H) : ∃ places, DataW.whole enc Tryz.prog ((laidWorld os).forCall (fun _ _ => 0) ⟨#[], #[.slice none 0 0, .slice none 0 0], []⟩).memory Tryz.f5.params.toList Rows.heapFitsSpec.vars false (#[.slice none 0 0, .slice none 0 0] : Array Value).toList 8 = some ([.nil, .nil], [], places) :=
  ⟨[], by kernel_rfl⟩

set_option maxRecDepth 100000 in
theorem lifted (os : Os) (started : os.Started) (H : Type) (enc : TypeId × Value → H) (F : Stop.Interp) :
    ReturnsInHanded {} Tryz.checked os 5 .any ((Rows.OpenSpec.upto Rows.heapFitsSpec).preRow enc Tryz.prog Tryz.f5 Rows.heapFitsUptoRow.domain false Rows.heapFitsUptoRow.laid) (((Rows.OpenSpec.upto Rows.heapFitsSpec).at F).post enc Tryz.prog Tryz.f5 false true false false) := by
  obtain ⟨places, hx⟩ := reads os enc
  refine returnsInHanded_of_row (C := Tryz.checked) (s := Rows.OpenSpec.upto Rows.heapFitsSpec) Tryz.own started (by kernel_rfl) Tryz.func5
    (witness_row_at (enc := enc) (C := Tryz.checked) false (laidWorld os) #[.slice none 0 0, .slice none 0 0] rfl (by kernel_rfl) (by kernel_rfl) (by kernel_rfl)
      (OpenSpec.preRow_of_cond 8 hx (by kernel_rfl) (fun k hk => by cases hk; kernel_rfl) (by kernel_rfl) (laid_met os _))) ?_
  intro W base args ds gs before hval hW _ hcond _ _ _ _
  exact contract H enc W base args ds gs before hval hW (hcond _ rfl)

theorem jA : (Rows.heapFitsUptoRow.inPlace == Tryz.prog.inPlace 5) = true := by kernel_rfl
theorem jB : (Rows.heapFitsUptoRow.unfollowed == Tryz.prog.unfollowed 5) = true := by kernel_rfl
theorem jC : (Rows.heapFitsUptoRow.recurses == Tryz.prog.recurses 5) = true := by kernel_rfl
theorem jD : (Rows.heapFitsUptoRow.named == Tryz.prog.varsNamed 5) = true := by kernel_rfl
theorem jE : laidOutB Tryz.prog = true := by kernel_rfl
theorem jF : mapsRowed Tryz.prog = true := by kernel_rfl
theorem jG : joinedFacts Tryz.prog 5 Tryz.f5 (Rows.OpenSpec.upto Rows.heapFitsSpec).bare Rows.heapFitsUptoRow = true := by
  unfold joinedFacts
  rw [jA, jB, jC, jD, jE, jF]
  kernel_rfl
theorem over : Rows.heapFitsUptoRow.holds Tryz.pinned (Rows.OpenSpec.upto Rows.heapFitsSpec) :=
  OpenClaim.holds_of_cond 5 Tryz.f5 rfl rfl rfl rfl rfl rfl rfl ⟨rfl, rfl, rfl, rfl, rfl⟩ rfl rfl rfl rfl rfl (by kernel_rfl) Tryz.func5 jG
    (of_decide_eq_true (by kernel_rfl)) (by unfold Func.isWrapper; first | (rw [if_pos (by decide +kernel)]; kernel_rfl) | (rw [if_neg (by decide +kernel)]; exact ⟨rfl, rfl⟩))
    (fun os started H enc _ F => by rw [OpenClaim.pre_eq_preRow]; exact lifted os started H enc F)

theorem plain (f : FuncId) (fn : Func) (hf : Tryz.pinned.checked.prog.funcNamed "annals/annalslaw08.HeapFits" = some f) (hfn : Tryz.pinned.checked.prog.funcs[f]? = some fn) :
    true = Tryz.pinned.checked.prog.looks [] ∧ ∀ (j : Nat) t, fn.params[j]? = some t → Tryz.pinned.checked.prog.wantsStandIn t = false := by
  obtain rfl : f = 5 := Option.some.inj ((show Tryz.prog.funcNamed "annals/annalslaw08.HeapFits" = some 5 by kernel_rfl).symm.trans hf) |>.symm
  obtain rfl : fn = Tryz.f5 := (Option.some.inj (Tryz.func5.symm.trans hfn)).symm
  refine ⟨by kernel_rfl, fun j t ht => ?_⟩
  rw [Tryz.params5] at ht
  have hall : ([54, 55] : List TypeId).all (fun t => !Tryz.prog.wantsStandIn t) = true := by kernel_rfl
  have := List.all_eq_true.1 hall t (by simpa using Array.mem_of_getElem? ht)
  exact (show Tryz.prog.wantsStandIn t = false by simpa using this)

theorem proved : Rows.HeapFitsUptoCardSaid :=
  Claim7.holds_tied_plain_at .later [] _ _ _ _ over (fun _ h => by cases h) (by kernel_rfl) (fun _ h => by cases h) heapFitsUpto_row_tie rfl ⟨rfl, rfl⟩ (by kernel_rfl) rfl plain (by kernel_rfl)
end Go.Proofs.YtiooeiapplnafaaGreatDoor.heapFits
