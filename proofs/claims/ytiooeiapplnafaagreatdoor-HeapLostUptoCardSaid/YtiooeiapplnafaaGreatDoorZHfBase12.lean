/- The texts HeL HeM HeN HeO HeP HeQ HpE HeR HeS, one behind the other: what the law leans on. Conditions: as each theorem says. -/
import Derived.Test.YtiooeiapplnafaaGreatDoorZHfBase11
set_option linter.unusedSimpArgs false
set_option linter.unusedVariables false
/- The package heap: Add. Conditions: that the heap is in order; that what is handed in can be read; sizes. -/
namespace Go.Proofs.YtiooeiapplnafaaGreatDoor
open Go.RowKit
theorem HInv.write {logs count n K K' : Nat} {s s' : Pl} {st : List (Int × Int)} {h : HR} (i : HInv logs count n K s st h) {e : En} (ok : OkStep h e) (hk : e.kind ≠ 3) (hl : e.txn ≤ h.last) (hs : SInv logs count n K' s' (h.es ++ [e]) (recsOf (writeR h e).vs)) (hKK : K ≤ K') : HInv logs count n K' s' st (writeR h e) :=
  ⟨hs, i.r.write ok hl (fun k => absurd k hk), i.st.write hk, i.pages, i.room, by have := i.lastK; show h.last ≤ _; omega⟩
theorem rc_add {h : HR} {t : Int} {d : List UInt8} {q : Nat} : rcSet (recsOf h.vs) true q (recsOf h.vs q ++ [newB t d]) = recsOf (writeR h (addE h t d q)).vs := by
  funext x
  rw [recs_add (h := h) (e := addE h t d q) rfl x]
  unfold rcSet
  simp only [if_true]
  by_cases e : x = q
  · subst e; rw [if_pos rfl, if_pos (by simp)]; rfl
  · rw [if_neg e, if_neg (by simpa using e)]
abbrev ridB (g : Nat) (a b : Int) : Assn := blk g [.int .i64 a, .int .i64 b] 39
theorem Hp.add1 (B : Base) (A : Assn) (gpg g5 g9 g8 : Nat) (recs : List (List UInt8)) (m : Int) (a : Option Addr) (mm c : Nat) (k a0 a1 : Int) (hu : usedR recs ≤ 243) (hmm : mm < 2 ^ 62) :
    Fn Tryz.prog B 60 #[pV gpg, pV g5, pV g9, pV g8] (pgA gpg recs m :: A :: [blk g5 [.slice a mm c] 22, blk g9 [.int .i64 k] 3, ridB g8 a0 a1])
      (fun v l => v = .bool false ∧ l = pgA gpg recs m :: A :: [blk g5 [.slice a mm c] 22, blk g9 [.int .i64 k] 3, if mm + 16 ≤ roomR recs then ridB g8 k recs.length else ridB g8 a0 a1]) := by
  by_cases hr : mm + 16 ≤ roomR recs
  · rw [if_pos hr]
    refine Fn.enter4 16 Tryz.func60 rfl rfl (nB rfl) (fun F => ?_)
    try simp only [cA, nA]
    refine T.seq ?_
    refine T.region ?_
    refine LW.q rfl (Qt.assign rfl) ?_
    refine LW.done ?_
    refine T.seq ?_
    refine T.seq ?_
    refine T.draw 6 ([blk g5 [.slice a mm c] 22]) (by kernel_rfl) (nB rfl) (by kernel_rfl) ?_
    refine RW.q 0 rfl rfl (by kernel_rfl) Sub.any (Qt.move rfl) ?_
    refine RW.q 2 rfl rfl (by kernel_rfl) Sub.any (Qt.load (by kernel_rfl) rfl rfl) ?_
    refine RW.q 3 rfl rfl (by kernel_rfl) Sub.any (Qt.len (e := 5) (sz := 1) (by kernel_rfl) rfl) ?_
    refine RW.q 4 rfl rfl (by kernel_rfl) Sub.any (Qt.add rfl rfl (wr64 (by omega) (by omega))) ?_
    refine RW.one 1 (by kernel_rfl) ?_
    refine RO.eS rfl rfl (Ef.call (Pg.room B gpg recs m hu) Tryz.func61 rfl rfl rfl ?_)
    rintro _ _ ⟨rfl, rfl⟩
    try simp only [cA, nA]
    refine ⟨Sub.any, ?_⟩
    refine RW.q 5 rfl rfl (by kernel_rfl) Sub.any (Qt.geq rfl rfl) ?_
    refine RW.done (by rfl) ?_
    simp only [dS, dZ, dN]
    refine LW.done ?_
    refine T.condPT rfl (by omega) ?_
    refine T.draw 4 ([blk g9 [.int .i64 k] 3]) (by kernel_rfl) (nB rfl) (by kernel_rfl) ?_
    refine RW.q 0 rfl rfl (by kernel_rfl) Sub.any (Qt.load (by kernel_rfl) rfl rfl) ?_
    refine RW.q 1 rfl rfl (by kernel_rfl) Sub.any (Qt.move rfl) ?_
    refine RW.one 2 (by kernel_rfl) ?_
    refine RO.eS rfl rfl (Ef.call (Pg.count B gpg recs m) Tryz.func62 rfl rfl rfl ?_)
    rintro _ _ ⟨rfl, rfl⟩
    try simp only [cA, nA]
    refine ⟨Sub.any, ?_⟩
    refine RW.q 3 rfl rfl (by kernel_rfl) Sub.any (Qt.build [(0, 1), (1, 1)] [.int .i64 0, .int .i64 0] [_, _] [(0, _), (1, _)] (by kernel_rfl) (by unfold zeroB; kernel_rfl) rfl rfl) ?_
    refine RW.done (by rfl) ?_
    simp only [dS, dZ, dN]
    refine LW.e0 rfl (Ef.store [_, _] (by kernel_rfl) rfl rfl rfl rfl (by simp) ?_)
    try simp only [splice, lC, lN, dS, cA, tS, tZ, dZ, nA, aN]
    refine LW.done ?_
    refine T.seq ?_
    refine T.region ?_
    refine LW.q rfl (Qt.assign rfl) ?_
    refine LW.done ?_
    refine T.ret ?_
    exact ⟨.inl rfl, _, _, res [_] rfl ⟨rvT rfl, trivial⟩, ⟨rfl, rfl⟩, Sub.any⟩
  · rw [if_neg hr]
    refine Fn.enter4 16 Tryz.func60 rfl rfl (nB rfl) (fun F => ?_)
    try simp only [cA, nA]
    refine T.seq ?_
    refine T.region ?_
    refine LW.q rfl (Qt.assign rfl) ?_
    refine LW.done ?_
    refine T.seq ?_
    refine T.seq ?_
    refine T.draw 6 ([blk g5 [.slice a mm c] 22]) (by kernel_rfl) (nB rfl) (by kernel_rfl) ?_
    refine RW.q 0 rfl rfl (by kernel_rfl) Sub.any (Qt.move rfl) ?_
    refine RW.q 2 rfl rfl (by kernel_rfl) Sub.any (Qt.load (by kernel_rfl) rfl rfl) ?_
    refine RW.q 3 rfl rfl (by kernel_rfl) Sub.any (Qt.len (e := 5) (sz := 1) (by kernel_rfl) rfl) ?_
    refine RW.q 4 rfl rfl (by kernel_rfl) Sub.any (Qt.add rfl rfl (wr64 (by omega) (by omega))) ?_
    refine RW.one 1 (by kernel_rfl) ?_
    refine RO.eS rfl rfl (Ef.call (Pg.room B gpg recs m hu) Tryz.func61 rfl rfl rfl ?_)
    rintro _ _ ⟨rfl, rfl⟩
    try simp only [cA, nA]
    refine ⟨Sub.any, ?_⟩
    refine RW.q 5 rfl rfl (by kernel_rfl) Sub.any (Qt.geq rfl rfl) ?_
    refine RW.done (by rfl) ?_
    simp only [dS, dZ, dN]
    refine LW.done ?_
    refine T.condPF rfl (by omega) ?_
    refine T.skip ?_
    refine T.seq ?_
    refine T.region ?_
    refine LW.q rfl (Qt.assign rfl) ?_
    refine LW.done ?_
    refine T.ret ?_
    exact ⟨.inl rfl, _, _, res [_] rfl ⟨rvT rfl, trivial⟩, ⟨rfl, rfl⟩, Sub.any⟩
theorem roomR_iff (h : HR) (q n : Nat) (hn : n ≤ 184) : n + 16 ≤ roomR (recsOf h.vs q) ↔ usedP h.vs q + 17 + n ≤ 256 := by
  unfold roomR usedP
  rw [used_recs]
  omega
theorem addE_ok {h : HR} (r : RInv h) (hp : h.pages ≤ 4096) (hl : h.last < 2 ^ 62) {t : Int} {d : List UInt8} {q : Nat} (ht : isAct h t = true) (hd : d.length ≤ 184) (hq : q < h.pages) : EnOk (addE h t d q) := by
  have h1 := r.act1 t (isAct_iff.1 ht)
  have h2 := pages_len r.ok q
  exact ⟨by simp, by simp; omega, by simp only [enPlace]; omega, by simp, by simp, by simp, by simp, by simp; omega⟩
def Seek (h : HR) (n k : Nat) (a0 a1 : Int) : Prop := (a0 = -1 ∧ a1 = 0 ∧ ∀ j, j < k → ¬ usedP h.vs j + 17 + n ≤ 256) ∨ ∃ q : Nat, k = q + 1 ∧ a0 = q ∧ a1 = ((pageV h.vs q).length : Nat) ∧ roomyP h n = some q
set_option maxHeartbeats 8000000 in
set_option maxRecDepth 100000 in
theorem Hp.add (B : Base) (S : List Assn) (g b logs count n K : Nat) (h : HR) (hK : K + count + 1 < 2 ^ 30) (t : Int) (a : Option Addr) (c : Nat) (d : List UInt8) (hv : RdV B S (.slice a d.length c) (bytesV d)) (hdl : d.length < 2 ^ 40) :
    Fn Tryz.prog B 18 #[pV g, .int .i64 t, .slice a d.length c] (hpA g b logs count n K h :: S) (fun u l => u = .tuple #[.agg #[.int .i64 (addR' h t d).2.1, .int .i64 (addR' h t d).2.2.1], .int .i64 (addR' h t d).2.2.2] ∧ l = hpA g b logs count n (K + count + 1) (addR' h t d).1 :: S) := by
  refine Fn.openHp fun x hi hp => ?_
  simp only [hpC, List.cons_append, List.nil_append]
  have ha := hi.st.act t
  have hi1 : HInv logs count n (K + count + 1) x.s x.st h := hi.mono (by omega)
  by_cases hc : isAct h t = true
  · by_cases hd : 184 < d.length
    · have he : addR' h t d = (h, 0, 0, 2) := by unfold addR'; rw [if_pos hc, if_pos hd]
      rw [he]
      refine Fn.enter3 66 Tryz.func18 rfl rfl (nB rfl) (fun F => ?_)
      try simp only [cA, nA]
      refine T.seq ?_
      refine T.region ?_
      refine LW.e rfl (Ef.box [_] rfl rfl ?_)
      intro g5
      refine LW.e rfl (Ef.alloc [.int .i64 0, .int .i64 0] (by unfold zeroB; kernel_rfl) ?_)
      intro g6
      refine LW.q rfl (Qt.assign rfl) ?_
      refine LW.done ?_
      refine T.seq ?_
      refine T.block ?_
      refine T.seq ?_
      refine T.region ?_
      refine LW.q rfl (Qt.move rfl) ?_
      refine LW.q rfl (Qt.nilCheck rfl) ?_
      refine LW.q rfl (Qt.fieldAddr0 (by kernel_rfl) rfl) ?_
      refine LW.q rfl (Qt.fieldAddr0 (by kernel_rfl) rfl) ?_
      refine LW.q rfl (Qt.load (by kernel_rfl) rfl rfl) ?_
      refine LW.q rfl (Qt.move rfl) ?_
      refine LW.q rfl (Qt.look1 Hp.okS rfl t rfl 0 rfl) ?_
      refine LW.q rfl (Qt.neq rfl rfl) ?_
      refine LW.q rfl (Qt.assign rfl) ?_
      refine LW.done ?_
      refine T.condPF rfl ((fun q => q (ha.2 hc))) ?_
      refine T.seq ?_
      refine T.region ?_
      refine LW.q rfl (Qt.load (by kernel_rfl) rfl rfl) ?_
      refine LW.q rfl (Qt.len (e := 5) (sz := 1) (by kernel_rfl) rfl) ?_
      refine LW.q rfl (Qt.gtr rfl rfl) ?_
      refine LW.q rfl (Qt.assign rfl) ?_
      refine LW.done ?_
      refine T.condPT rfl (by omega) ?_
      refine T.seq ?_
      refine T.region ?_
      refine LW.q rfl (Qt.build [(0, 1), (1, 1)] [.int .i64 0, .int .i64 0] [_, _] [] (by kernel_rfl) (by unfold zeroB; kernel_rfl) rfl rfl) ?_
      refine LW.e0 rfl (Ef.store [_, _] (by kernel_rfl) rfl rfl rfl rfl (by simp) ?_)
      try simp only [splice, lC, lN, dS, cA, tS, tZ, dZ, nA, aN]
      refine LW.q rfl (Qt.assign rfl) ?_
      refine LW.done ?_
      refine T.ret ?_
      exact ⟨.inl rfl, _, _, res [_, _] rfl ⟨rvA [_, _] (by kernel_rfl) rfl ⟨rfl, rfl, trivial⟩, rvT rfl, trivial⟩, ⟨rfl, rfl⟩, hp_close [hpB g x.q x.pc h.cm.length x.cc h.last, stA x.q x.st, cmR x.pc h.cm.length x.cc h.cm, wlS b x.q x.s, plS b n logs count x.q x.s, dskA b x.s.D] x h hi1 rfl⟩
    · have hct := hi.cnt
      have hpg := hi.pages
      have hu := hi.used
      have hr := hi.room
      have hlk : h.last < 2 ^ 62 := by have := hi.lastK; omega
      refine Fn.enter3 66 Tryz.func18 rfl rfl (nB rfl) (fun F => ?_)
      try simp only [cA, nA]
      refine T.seq ?_
      refine T.region ?_
      refine LW.e rfl (Ef.box [_] rfl rfl ?_)
      intro g5
      refine LW.e rfl (Ef.alloc [.int .i64 0, .int .i64 0] (by unfold zeroB; kernel_rfl) ?_)
      intro g6
      refine LW.q rfl (Qt.assign rfl) ?_
      refine LW.done ?_
      refine T.seq ?_
      refine T.block ?_
      refine T.seq ?_
      refine T.region ?_
      refine LW.q rfl (Qt.move rfl) ?_
      refine LW.q rfl (Qt.nilCheck rfl) ?_
      refine LW.q rfl (Qt.fieldAddr0 (by kernel_rfl) rfl) ?_
      refine LW.q rfl (Qt.fieldAddr0 (by kernel_rfl) rfl) ?_
      refine LW.q rfl (Qt.load (by kernel_rfl) rfl rfl) ?_
      refine LW.q rfl (Qt.move rfl) ?_
      refine LW.q rfl (Qt.look1 Hp.okS rfl t rfl 0 rfl) ?_
      refine LW.q rfl (Qt.neq rfl rfl) ?_
      refine LW.q rfl (Qt.assign rfl) ?_
      refine LW.done ?_
      refine T.condPF rfl ((fun q => q (ha.2 hc))) ?_
      refine T.seq ?_
      refine T.region ?_
      refine LW.q rfl (Qt.load (by kernel_rfl) rfl rfl) ?_
      refine LW.q rfl (Qt.len (e := 5) (sz := 1) (by kernel_rfl) rfl) ?_
      refine LW.q rfl (Qt.gtr rfl rfl) ?_
      refine LW.q rfl (Qt.assign rfl) ?_
      refine LW.done ?_
      refine T.condPF rfl (by omega) ?_
      refine T.skip ?_
      refine T.seq ?_
      refine T.region ?_
      refine LW.q rfl (Qt.build [(0, 1), (1, 1)] [.int .i64 0, .int .i64 0] [_, _] [(0, _)] (by kernel_rfl) (by unfold zeroB; kernel_rfl) rfl rfl) ?_
      refine LW.e rfl (Ef.alloc [.int .i64 0, .int .i64 0] (by unfold zeroB; kernel_rfl) ?_)
      intro g8
      refine LW.e0 rfl (Ef.store [_, _] (by kernel_rfl) rfl rfl rfl rfl (by simp) ?_)
      try simp only [splice, lC, lN, dS, cA, tS, tZ, dZ, nA, aN]
      refine LW.done ?_
      refine T.cut (fun fz lz => ∃ (f0 : Fr) (s2 : Pl) (a0 a1 : Int), (SInv logs count n (K + count) s2 h.es (recsOf h.vs) ∧ ((a0 = -1 ∧ a1 = 0 ∧ roomyP h d.length = none) ∨ ∃ q : Nat, a0 = q ∧ a1 = ((pageV h.vs q).length : Nat) ∧ roomyP h d.length = some q)) ∧ fz = (upd (upd (upd (upd (upd (upd f0 0 (pV g)) 1 (.int .i64 t)) 5 (pV g5)) 6 (pV g6)) 7 (.int .i64 0)) 8 (pV g8)) ∧ lz = ridB g8 a0 a1 :: blk g5 [.slice a d.length c] 22 :: ridB g6 0 0 :: hpB g x.q x.pc h.cm.length x.cc h.last :: stA x.q x.st :: cmR x.pc h.cm.length x.cc h.cm :: wlS b x.q s2 :: plS b n logs count x.q s2 :: dskA b s2.D :: (S ++ F)) ?_ ?_
      · skip
        refine T.seq ?_
        refine T.region ?_
        refine LW.e rfl (Ef.alloc [.int .i64 0] (by unfold zeroB; kernel_rfl) ?_)
        intro g9
        refine LW.e0 rfl (Ef.store1 (by kernel_rfl) rfl rfl rfl (by first | (simp; done) | (simp; omega)) ?_)
        try simp only [List.set_cons_zero, List.set_cons_succ]
        refine LW.done ?_
        refine T.block ?_
        refine T.loop (fun mz fz lz => ∃ (f0 : Fr) (k gk : Nat) (s2 : Pl) (a0 a1 : Int), (k ≤ count ∧ SInv logs count n (K + k) s2 h.es (recsOf h.vs) ∧ Seek h d.length k a0 a1) ∧ mz = count - k ∧ fz = (upd (upd (upd (upd (upd (upd (upd f0 0 (pV g)) 1 (.int .i64 t)) 5 (pV g5)) 6 (pV g6)) 7 (.int .i64 0)) 8 (pV g8)) 9 (pV gk)) ∧ lz = blk gk [.int .i64 k] 3 :: ridB g8 a0 a1 :: blk g5 [.slice a d.length c] 22 :: ridB g6 0 0 :: hpB g x.q x.pc h.cm.length x.cc h.last :: stA x.q x.st :: cmR x.pc h.cm.length x.cc h.cm :: wlS b x.q s2 :: plS b n logs count x.q s2 :: dskA b s2.D :: (S ++ F)) ?_ ?_
        · refine ⟨_, _, ⟨_, 0, _, x.s, -1, 0, ⟨Nat.zero_le _, hi.s, .inl ⟨rfl, rfl, fun j hj => by omega⟩⟩, rfl, (updS rfl (updS rfl (updS rfl (updS rfl (updS rfl (updS rfl (updS rfl rfl))))))), rfl⟩, Sub.any⟩
        · skip
          rintro mz fz lz ⟨f0, k, gk, s2, a0, a1, ⟨hk, hs2, hseek⟩, hmz, rfl, rfl⟩
          subst mz
          try simp only [cA, nA]
          refine T.seq ?_
          refine T.seq ?_
          refine T.draw 14 ([hpB g x.q x.pc h.cm.length x.cc h.last, blk gk [.int .i64 k] 3, ridB g8 a0 a1]) (by kernel_rfl) (nB rfl) (by kernel_rfl) ?_
          refine RW.q 0 rfl rfl (by kernel_rfl) Sub.any (Qt.load (by kernel_rfl) rfl rfl) ?_
          refine RW.q 1 rfl rfl (by kernel_rfl) Sub.any (Qt.move rfl) ?_
          refine RW.q 2 rfl rfl (by kernel_rfl) Sub.any (Qt.nilCheck rfl) ?_
          refine RW.q 3 rfl rfl (by kernel_rfl) Sub.any (Qt.fieldAddr (off := 4) (by kernel_rfl) rfl) ?_
          refine RW.q 4 rfl rfl (by kernel_rfl) Sub.any (Qt.load (by kernel_rfl) rfl rfl) ?_
          refine RW.q 5 rfl rfl (by kernel_rfl) Sub.any (Qt.nilCheck rfl) ?_
          refine RW.q 6 rfl rfl (by kernel_rfl) Sub.any (Qt.fieldAddr0 (by kernel_rfl) rfl) ?_
          refine RW.one 7 (by kernel_rfl) ?_
          refine RO.eS rfl rfl (Ef.call (Bp.pages B x.q.gp b n logs count s2.hand x.q.gl s2.A) Tryz.func58 rfl rfl rfl ?_)
          rintro _ _ ⟨rfl, rfl⟩
          try simp only [cA, nA]
          refine ⟨Sub.any, ?_⟩
          refine RW.q 8 rfl rfl (by kernel_rfl) Sub.any (Qt.lss rfl rfl) ?_
          refine RW.q 9 rfl rfl (by kernel_rfl) Sub.any (Qt.move rfl) ?_
          by_cases ha0 : a0 = -1
          · skip
            obtain ⟨ha1, hno⟩ : a1 = 0 ∧ ∀ j, j < k → ¬ usedP h.vs j + 17 + d.length ≤ 256 := by
              rcases hseek with ⟨_, h1, h2⟩ | ⟨q, _, h1, _⟩
              · exact ⟨h1, h2⟩
              · omega
            subst ha0
            subst ha1
            refine RW.split (t := 36) rfl (fun hkc => ?_) (fun hkc => ?_)
            · skip
              try replace hkc := of_decide_eq_true hkc
              refine RW.q 10 rfl rfl (by kernel_rfl) Sub.any (Qt.fieldAddr0 (by kernel_rfl) rfl) ?_
              refine RW.q 11 rfl rfl (by kernel_rfl) Sub.any (Qt.load (by kernel_rfl) rfl rfl) ?_
              refine RW.q 12 rfl rfl (by kernel_rfl) Sub.any (Qt.lss rfl rfl) ?_
              refine RW.q 13 rfl rfl (by kernel_rfl) Sub.any (Qt.pick rfl rfl) ?_
              refine RW.done (by rfl) ?_
              simp only [dS, dZ, dN]
              refine LW.done ?_
              refine T.condT rfl ?_
              refine T.skip ?_
              refine T.seq ?_
              refine T.block ?_
              refine T.region ?_
              refine LW.q rfl (Qt.move rfl) ?_
              refine LW.q rfl (Qt.load (by kernel_rfl) rfl rfl) ?_
              refine LW.q rfl (Qt.makeFunc [_, _, _] rfl) ?_
              refine LW.e rfl (Ef.call (Hp.with B g b n logs count (K + k) x.q x.pc h.cm.length x.cc h.last s2 h.es (recsOf h.vs) hs2 (by omega) k (by omega) k rfl 0 0 rfl (by omega) 60 Tryz.f60 [pV g5, pV gk, pV g8] [blk g5 [.slice a d.length c] 22, blk gk [.int .i64 k] 3, ridB g8 (-1) 0] (fun bb r' X' => bb = false ∧ X' = [blk g5 [.slice a d.length c] 22, blk gk [.int .i64 k] 3, if d.length + 16 ≤ roomR (recsOf h.vs k) then ridB g8 k (recsOf h.vs k).length else ridB g8 (-1) 0]) Tryz.func60 rfl rfl (fun gpg m => (Hp.add1 B (hpB g x.q x.pc h.cm.length x.cc h.last) gpg g5 gk g8 (recsOf h.vs k) m a d.length c k (-1) 0 (recs_ok hi.r.ok k).1.used (by omega)).mono (fun v l ⟨h1, h2⟩ => ⟨false, _, _, ⟨rfl, rfl⟩, h1, h2⟩)) (fun r' X' hh => by obtain ⟨h1, _⟩ := hh; cases h1)) Tryz.func59 rfl rfl rfl ?_)
              rintro _ _ ⟨bb, r', X', s', ⟨rfl, rfl⟩, hS, rfl, rfl⟩
              try simp only [cA, nA]
              have hS2 : SInv logs count n (K + k + 1) s' h.es (recsOf h.vs) := by simpa [rcSet] using hS
              have hroom := roomR_iff h k d.length (by omega)
              refine LW.done ?_
              refine T.seq ?_
              refine T.seq ?_
              refine T.region ?_
              refine LW.q rfl (Qt.load (by kernel_rfl) rfl rfl) ?_
              refine LW.done ?_
              refine T.region ?_
              refine LW.e rfl (Ef.alloc [.int .i64 0] (by unfold zeroB; kernel_rfl) ?_)
              intro g9
              refine LW.e0 rfl (Ef.store1 (by kernel_rfl) rfl rfl rfl (by first | (simp; done) | (simp; omega)) ?_)
              try simp only [List.set_cons_zero, List.set_cons_succ]
              refine LW.done ?_
              refine T.region ?_
              refine LW.q rfl (Qt.load (by kernel_rfl) rfl rfl) ?_
              refine LW.q rfl (Qt.add (r := ((k + 1 : Nat) : Int)) rfl rfl (by rw [wr64 (by omega) (by omega)]; omega)) ?_
              refine LW.e0 rfl (Ef.store1 (by kernel_rfl) rfl rfl rfl (by first | (simp; done) | (simp; omega)) ?_)
              try simp only [List.set_cons_zero, List.set_cons_succ]
              refine LW.done ?_
              by_cases hfit : usedP h.vs k + 17 + d.length ≤ 256
              · skip
                rw [if_pos (hroom.2 hfit)]
                refine ⟨_, ?_, _, ⟨_, k + 1, _, s', k, (recsOf h.vs k).length, ⟨by omega, hS2, .inr ⟨k, rfl, rfl, by simp [recsOf], roomy_of (by omega) hfit hno⟩⟩, rfl, (updS rfl (updS rfl (updS rfl (updS rfl (updS rfl (updS rfl (updS rfl rfl))))))), rfl⟩, Sub.any⟩
                omega
              · skip
                rw [if_neg (fun q => hfit (hroom.1 q))]
                refine ⟨_, ?_, _, ⟨_, k + 1, _, s', -1, 0, ⟨by omega, hS2, .inl ⟨rfl, rfl, fun j hj => by rcases Nat.lt_or_eq_of_le (Nat.lt_succ_iff.1 hj) with h1 | h1; exact hno j h1; rw [h1]; exact hfit⟩⟩, rfl, (updS rfl (updS rfl (updS rfl (updS rfl (updS rfl (updS rfl (updS rfl rfl))))))), rfl⟩, Sub.any⟩
                omega
            · skip
              try replace hkc := of_decide_eq_false hkc
              refine RW.s 10 rfl rfl (by kernel_rfl) Sub.any ?_
              refine RW.s 11 rfl rfl (by kernel_rfl) Sub.any ?_
              refine RW.s 12 rfl rfl (by kernel_rfl) Sub.any ?_
              refine RW.q 13 rfl rfl (by kernel_rfl) Sub.any (Qt.pick rfl rfl) ?_
              refine RW.done (by rfl) ?_
              simp only [dS, dZ, dN]
              refine LW.done ?_
              refine T.condF rfl ?_
              refine T.exit ?_
              exact ⟨_, ⟨_, s2, -1, 0, ⟨hs2.mono (by omega), .inl ⟨rfl, rfl, roomy_no (fun j hj => hno j (by omega))⟩⟩, (updS rfl (updS rfl (updS rfl (updS rfl (updS rfl (updS rfl rfl)))))), rfl⟩, Sub.any⟩
          · skip
            obtain ⟨q, hkq, ha1, ha2, hq⟩ := hseek.resolve_left (fun hh => ha0 hh.1)
            refine RW.split (t := 36) rfl (fun hkc => ?_) (fun hkc => ?_)
            · skip
              try replace hkc := of_decide_eq_true hkc
              refine RW.q 10 rfl rfl (by kernel_rfl) Sub.any (Qt.fieldAddr0 (by kernel_rfl) rfl) ?_
              refine RW.q 11 rfl rfl (by kernel_rfl) Sub.any (Qt.load (by kernel_rfl) rfl rfl) ?_
              refine RW.q 12 rfl rfl (by kernel_rfl) Sub.any (Qt.lss rfl rfl) ?_
              refine RW.q 13 rfl rfl (by kernel_rfl) Sub.any (Qt.pick rfl rfl) ?_
              refine RW.done (by rfl) ?_
              simp only [dS, dZ, dN]
              refine LW.done ?_
              refine T.condPF rfl (by omega) ?_
              refine T.exit ?_
              exact ⟨_, ⟨_, s2, a0, a1, ⟨hs2.mono (by omega), .inr ⟨q, ha1, ha2, hq⟩⟩, (updS rfl (updS rfl (updS rfl (updS rfl (updS rfl (updS rfl rfl)))))), rfl⟩, Sub.any⟩
            · skip
              try replace hkc := of_decide_eq_false hkc
              refine RW.s 10 rfl rfl (by kernel_rfl) Sub.any ?_
              refine RW.s 11 rfl rfl (by kernel_rfl) Sub.any ?_
              refine RW.s 12 rfl rfl (by kernel_rfl) Sub.any ?_
              refine RW.q 13 rfl rfl (by kernel_rfl) Sub.any (Qt.pick rfl rfl) ?_
              refine RW.done (by rfl) ?_
              simp only [dS, dZ, dN]
              refine LW.done ?_
              refine T.condF rfl ?_
              refine T.exit ?_
              exact ⟨_, ⟨_, s2, a0, a1, ⟨hs2.mono (by omega), .inr ⟨q, ha1, ha2, hq⟩⟩, (updS rfl (updS rfl (updS rfl (updS rfl (updS rfl (updS rfl rfl)))))), rfl⟩, Sub.any⟩
      rintro fz lz ⟨f0, s2, a0, a1, ⟨hs2, hseek⟩, rfl, rfl⟩
      try simp only [cA, nA]
      have hi2 : HInv logs count n (K + count + 1) s2 x.st h := ⟨hs2.mono (by omega), hi.r, hi.st, hi.pages, hi.room, by have := hi.lastK; omega⟩
      by_cases ha0 : a0 = -1
      · skip
        have hnone : roomyP h d.length = none := by
          rcases hseek with ⟨_, _, h2⟩ | ⟨q, h1, _⟩
          · exact h2
          · omega
        refine T.seq ?_
        refine T.seq ?_
        refine T.region ?_
        refine LW.q rfl (Qt.fieldAddr0 (by kernel_rfl) rfl) ?_
        refine LW.q rfl (Qt.load (by kernel_rfl) rfl rfl) ?_
        refine LW.q rfl (Qt.lss rfl rfl) ?_
        refine LW.done ?_
        refine T.condPT rfl (by omega) ?_
        have he : addR' h t d = (h, 0, 0, 3) := by unfold addR'; rw [if_pos hc, if_neg hd, hnone]
        rw [he]
        refine T.seq ?_
        refine T.region ?_
        refine LW.q rfl (Qt.build [(0, 1), (1, 1)] [.int .i64 0, .int .i64 0] [_, _] [] (by kernel_rfl) (by unfold zeroB; kernel_rfl) rfl rfl) ?_
        refine LW.e0 rfl (Ef.store [_, _] (by kernel_rfl) rfl rfl rfl rfl (by simp) ?_)
        try simp only [splice, lC, lN, dS, cA, tS, tZ, dZ, nA, aN]
        refine LW.q rfl (Qt.assign rfl) ?_
        refine LW.done ?_
        refine T.ret ?_
        exact ⟨.inl rfl, _, _, res [_, _] rfl ⟨rvA [_, _] (by kernel_rfl) rfl ⟨rfl, rfl, trivial⟩, rvT rfl, trivial⟩, ⟨rfl, rfl⟩, hp_close [hpB g x.q x.pc h.cm.length x.cc h.last, stA x.q x.st, cmR x.pc h.cm.length x.cc h.cm, wlS b x.q s2, plS b n logs count x.q s2, dskA b s2.D] { x with s := s2 } h hi2 rfl⟩
      · skip
        obtain ⟨q, ha1, ha2, hq⟩ := hseek.resolve_left (fun hh => ha0 hh.1)
        subst ha1
        subst ha2
        obtain ⟨hq1, hq2, hq3⟩ := roomy_some hq
        have hokE := addE_ok hi.r (by omega) hlk hc (d := d) (q := q) (by omega) hq1
        have hsz : enSz (addE h t d q) = 20 + d.length := by rw [enSz_eq]; simp
        have hu2 := hi2.used
        refine T.seq ?_
        refine T.seq ?_
        refine T.region ?_
        refine LW.q rfl (Qt.fieldAddr0 (by kernel_rfl) rfl) ?_
        refine LW.q rfl (Qt.load (by kernel_rfl) rfl rfl) ?_
        refine LW.q rfl (Qt.lss rfl rfl) ?_
        refine LW.done ?_
        refine T.condF rfl ?_
        by_cases hf : (h.room : Int) < h.used + 20 + d.length
        · skip
          have he : addR' h t d = (h, 0, 0, 3) := by unfold addR'; rw [if_pos hc, if_neg hd, hq]; dsimp only; rw [if_pos hf]
          rw [he]
          refine T.skip ?_
          refine T.seq ?_
          refine T.seq ?_
          refine T.region ?_
          refine LW.q rfl (Qt.move rfl) ?_
          refine LW.q rfl (Qt.move rfl) ?_
          refine LW.q rfl (Qt.fieldAddr0 (by kernel_rfl) rfl) ?_
          refine LW.q rfl (Qt.load (by kernel_rfl) rfl rfl) ?_
          refine LW.q rfl (Qt.fieldAddr (off := 1) (by kernel_rfl) rfl) ?_
          refine LW.q rfl (Qt.load (by kernel_rfl) rfl rfl) ?_
          refine LW.q rfl (Qt.load (by kernel_rfl) rfl rfl) ?_
          refine LW.q rfl (Qt.build [(0, 1), (1, 1), (2, 1), (3, 1), (4, 1), (5, 1)] [.int .i64 0, .int .i64 0, .int .i64 0, .int .i64 0, .int .i64 0, .slice none 0 0] [_, _, _, _, _, _] [(0, _), (1, _), (2, _), (3, _), (5, _)] (by kernel_rfl) (by unfold zeroB; kernel_rfl) rfl rfl) ?_
          refine LW.e rfl (Ef.call (Hp.writeFull B S g b logs count n (K + count) x.q x.pc h.cm.length x.cc h.last s2 h.es (recsOf h.vs) hs2 (addE h t d q) a c hokE hv (by omega)) Tryz.func63 rfl rfl rfl ?_)
          rintro _ _ ⟨rfl, rfl⟩
          try simp only [cA, nA]
          refine LW.q rfl (Qt.assign rfl) ?_
          refine LW.done ?_
          refine T.seq ?_
          refine T.region ?_
          refine LW.q rfl (Qt.move rfl) ?_
          refine LW.q rfl (Qt.neq rfl rfl) ?_
          refine LW.done ?_
          refine T.condT rfl ?_
          refine T.seq ?_
          refine T.region ?_
          refine LW.q rfl (Qt.build [(0, 1), (1, 1)] [.int .i64 0, .int .i64 0] [_, _] [] (by kernel_rfl) (by unfold zeroB; kernel_rfl) rfl rfl) ?_
          refine LW.q rfl (Qt.move rfl) ?_
          refine LW.e0 rfl (Ef.store [_, _] (by kernel_rfl) rfl rfl rfl rfl (by simp) ?_)
          try simp only [splice, lC, lN, dS, cA, tS, tZ, dZ, nA, aN]
          refine LW.q rfl (Qt.assign rfl) ?_
          refine LW.done ?_
          refine T.ret ?_
          exact ⟨.inl rfl, _, _, res [_, _] rfl ⟨rvA [_, _] (by kernel_rfl) rfl ⟨rfl, rfl, trivial⟩, rvT rfl, trivial⟩, ⟨rfl, rfl⟩, hp_close [hpB g x.q x.pc h.cm.length x.cc h.last, stA x.q x.st, cmR x.pc h.cm.length x.cc h.cm, wlS b x.q s2, plS b n logs count x.q s2, dskA b s2.D] { x with s := s2 } h hi2 rfl⟩
        · skip
          have he : addR' h t d = (writeR h (addE h t d q), (q : Int), ((pageV h.vs q).length : Int), 0) := by unfold addR'; rw [if_pos hc, if_neg hd, hq]; dsimp only; rw [if_neg hf]
          rw [he]
          have hstep := hi.r.addStep (by omega) hlk hc (d := d) (q := q) (by omega) hq1 hq2 (by omega)
          have hrl : (recsOf h.vs q).length = (pageV h.vs q).length := by simp [recsOf]
          have hro := recs_ok hi.r.ok q
          have hus : usedR (recsOf h.vs q) + 17 + d.length ≤ 243 := by rw [used_recs]; unfold usedP at hq2; omega
          have hro2 := (recs_ok (hi.r.ok.write hstep) q)
          have hrc := rc_add (h := h) (t := t) (d := d) (q := q)
          have hro3 : PgOk (recsOf h.vs q ++ [newB t d]) ∧ (recsOf h.vs q ++ [newB t d]).length < 256 := by have := congrFun hrc q; unfold rcSet at this; simp only [if_true] at this; rw [this]; exact hro2
          refine T.skip ?_
          refine T.seq ?_
          refine T.seq ?_
          refine T.region ?_
          refine LW.q rfl (Qt.move rfl) ?_
          refine LW.q rfl (Qt.move rfl) ?_
          refine LW.q rfl (Qt.fieldAddr0 (by kernel_rfl) rfl) ?_
          refine LW.q rfl (Qt.load (by kernel_rfl) rfl rfl) ?_
          refine LW.q rfl (Qt.fieldAddr (off := 1) (by kernel_rfl) rfl) ?_
          refine LW.q rfl (Qt.load (by kernel_rfl) rfl rfl) ?_
          refine LW.q rfl (Qt.load (by kernel_rfl) rfl rfl) ?_
          refine LW.q rfl (Qt.build [(0, 1), (1, 1), (2, 1), (3, 1), (4, 1), (5, 1)] [.int .i64 0, .int .i64 0, .int .i64 0, .int .i64 0, .int .i64 0, .slice none 0 0] [_, _, _, _, _, _] [(0, _), (1, _), (2, _), (3, _), (5, _)] (by kernel_rfl) (by unfold zeroB; kernel_rfl) rfl rfl) ?_
          refine LW.e rfl (Ef.call (Hp.writeP B S g b logs count n (K + count) x.q x.pc h.cm.length x.cc h.last s2 h.es (recsOf h.vs) hs2 (by omega) (addE h t d q) a c hokE hv (by omega) (by simp) q rfl (by omega) (recsOf h.vs q ++ [newB t d]) hro3.1 hro3.2 (fun X hX gpg m => Hp.applyAdd B X (pV g) gpg (recsOf h.vs q) m (addE h t d q) a c hokE rfl hX (by rw [hrl]) (by show d.length ≤ 184; omega) hus)) Tryz.func63 rfl rfl rfl ?_)
          rintro _ _ ⟨s', hS, rfl, rfl⟩
          try simp only [cA, nA]
          refine LW.q rfl (Qt.assign rfl) ?_
          refine LW.done ?_
          refine T.seq ?_
          refine T.region ?_
          refine LW.q rfl (Qt.move rfl) ?_
          refine LW.q rfl (Qt.neq rfl rfl) ?_
          refine LW.done ?_
          rw [hrc] at hS
          have hi3 := hi.write hstep (by simp) (hi.r.act1 t (isAct_iff.1 hc)).2 hS (by omega)
          refine T.condF rfl ?_
          refine T.skip ?_
          refine T.seq ?_
          refine T.region ?_
          refine LW.q rfl (Qt.loadAgg [_, _] (by kernel_rfl) rfl ⟨rfl, rfl, trivial⟩) ?_
          refine LW.e0 rfl (Ef.store [_, _] (by kernel_rfl) rfl rfl rfl rfl (by simp) ?_)
          try simp only [splice, lC, lN, dS, cA, tS, tZ, dZ, nA, aN]
          refine LW.q rfl (Qt.assign rfl) ?_
          refine LW.done ?_
          refine T.ret ?_
          exact ⟨.inl rfl, _, _, res [_, _] rfl ⟨rvA [_, _] (by kernel_rfl) rfl ⟨rfl, rfl, trivial⟩, rvT rfl, trivial⟩, ⟨rfl, rfl⟩, hp_close [hpB g x.q x.pc h.cm.length x.cc h.last, stA x.q x.st, cmR x.pc h.cm.length x.cc h.cm, wlS b x.q s', plS b n logs count x.q s', dskA b s'.D] { x with s := s' } (writeR h (addE h t d q)) hi3 rfl⟩
  · have he : addR' h t d = (h, 0, 0, 70) := by unfold addR'; rw [if_neg hc]
    rw [he]
    refine Fn.enter3 66 Tryz.func18 rfl rfl (nB rfl) (fun F => ?_)
    try simp only [cA, nA]
    refine T.seq ?_
    refine T.region ?_
    refine LW.e rfl (Ef.box [_] rfl rfl ?_)
    intro g5
    refine LW.e rfl (Ef.alloc [.int .i64 0, .int .i64 0] (by unfold zeroB; kernel_rfl) ?_)
    intro g6
    refine LW.q rfl (Qt.assign rfl) ?_
    refine LW.done ?_
    refine T.seq ?_
    refine T.block ?_
    refine T.seq ?_
    refine T.region ?_
    refine LW.q rfl (Qt.move rfl) ?_
    refine LW.q rfl (Qt.nilCheck rfl) ?_
    refine LW.q rfl (Qt.fieldAddr0 (by kernel_rfl) rfl) ?_
    refine LW.q rfl (Qt.fieldAddr0 (by kernel_rfl) rfl) ?_
    refine LW.q rfl (Qt.load (by kernel_rfl) rfl rfl) ?_
    refine LW.q rfl (Qt.move rfl) ?_
    refine LW.q rfl (Qt.look1 Hp.okS rfl t rfl 0 rfl) ?_
    refine LW.q rfl (Qt.neq rfl rfl) ?_
    refine LW.q rfl (Qt.assign rfl) ?_
    refine LW.done ?_
    refine T.condPT rfl ((fun q => hc (ha.1 q))) ?_
    refine T.seq ?_
    refine T.region ?_
    refine LW.q rfl (Qt.build [(0, 1), (1, 1)] [.int .i64 0, .int .i64 0] [_, _] [] (by kernel_rfl) (by unfold zeroB; kernel_rfl) rfl rfl) ?_
    refine LW.e0 rfl (Ef.store [_, _] (by kernel_rfl) rfl rfl rfl rfl (by simp) ?_)
    try simp only [splice, lC, lN, dS, cA, tS, tZ, dZ, nA, aN]
    refine LW.q rfl (Qt.assign rfl) ?_
    refine LW.done ?_
    refine T.ret ?_
    exact ⟨.inl rfl, _, _, res [_, _] rfl ⟨rvA [_, _] (by kernel_rfl) rfl ⟨rfl, rfl, trivial⟩, rvT rfl, trivial⟩, ⟨rfl, rfl⟩, hp_close [hpB g x.q x.pc h.cm.length x.cc h.last, stA x.q x.st, cmR x.pc h.cm.length x.cc h.cm, wlS b x.q x.s, plS b n logs count x.q x.s, dskA b x.s.D] x h hi1 rfl⟩
end Go.Proofs.YtiooeiapplnafaaGreatDoor

/- The package heap: version, find. Conditions: that the heap is in order; sizes. -/
namespace Go.Proofs.YtiooeiapplnafaaGreatDoor
open Go.RowKit
theorem ver_beg (v : Ver) : (verB v).take 8 = be (UInt64.ofInt v.beg) 8 := by unfold verB; rw [List.append_assoc, List.take_left' (length_be _ _)]
theorem ver_fin (v : Ver) : ((verB v).take 16).drop 8 = be (UInt64.ofInt v.fin) 8 := by unfold verB; rw [List.take_left' (by simp [length_be]), List.drop_left' (length_be _ _)]
theorem ver_data (v : Ver) : (verB v).drop 16 = v.data := by unfold verB; rw [List.drop_left' (by simp [length_be])]
abbrev verV (n slot : Int) (v : Ver) (a : Option Addr) (c : Nat) : Value := .agg #[.int .i64 n, .int .i64 slot, .int .i64 v.beg, .int .i64 v.fin, .slice (offA a c 16 1) v.data.length (c - 16)]
set_option maxHeartbeats 2000000 in
theorem Hp.version (B : Base) (S : List Assn) (n slot : Int) (a : Option Addr) (m c : Nat) (v : Ver) (hv : RdV B S (.slice a m c) (bytesV (verB v))) (hm : (verB v).length = m) (hmc : m ≤ c) (hb : 0 ≤ v.beg ∧ v.beg < 9223372036854775808) (hf : 0 ≤ v.fin ∧ v.fin < 9223372036854775808) :
    Fn Tryz.prog B 66 #[.int .i64 n, .int .i64 slot, .slice a m c] S (fun u l => u = verV n slot v a c ∧ l = S) := by
  have hml : m = 16 + v.data.length := by rw [← hm, length_verB]
  have h1 := RdV.part hv 0 8 (by omega) hm (by omega) (by omega) (z := 8) rfl
  have h2 := RdV.part hv 8 16 (by omega) hm (by omega) (by omega) (z := 8) rfl
  rw [List.drop_zero, ver_beg, offA_zero] at h1
  rw [ver_fin] at h2
  have g1 := get_at (n := v.beg) (k := 8) (by omega) (by omega) (by omega) (by omega)
  have g2 := get_at (n := v.fin) (k := 8) (by omega) (by omega) (by omega) (by omega)
  have hz : m - 16 = v.data.length := by omega
  refine Fn.enter3 21 Tryz.func66 rfl rfl (nB rfl) (fun F => ?_)
  try simp only [cA, nA]
  refine T.seq ?_
  refine T.region ?_
  refine LW.e rfl (Ef.alloc [.int .i64 0, .int .i64 0, .int .i64 0, .int .i64 0, .slice none 0 0] (by unfold zeroB; kernel_rfl) ?_)
  intro g6
  refine LW.done ?_
  refine T.seq ?_
  refine T.drawBl 14 none (by kernel_rfl) (nB rfl) (by kernel_rfl) ?_
  refine RW.q 0 rfl rfl (by kernel_rfl) Sub.any (Qt.move rfl) ?_
  refine RW.q 1 rfl rfl (by kernel_rfl) Sub.any (Qt.move rfl) ?_
  refine RW.q 2 rfl rfl (by kernel_rfl) Sub.any (Qt.build [(0, 1), (1, 1)] [.int .i64 0, .int .i64 0] [_, _] [(0, _), (1, _)] (by kernel_rfl) (by unfold zeroB; kernel_rfl) rfl rfl) ?_
  refine RW.q 3 rfl rfl (by kernel_rfl) Sub.any (Qt.move rfl) ?_
  refine RW.q 4 rfl rfl (by kernel_rfl) Sub.any (Qt.slice_nsn 8 (e := 5) (sz := 1) (by kernel_rfl) rfl rfl rfl (by omega)) ?_
  refine RW.q 7 rfl rfl (by kernel_rfl) Sub.any (Qt.move rfl) ?_
  refine RW.q 8 rfl rfl (by kernel_rfl) Sub.any (Qt.slice_ssn 8 16 (e := 5) (sz := 1) (by kernel_rfl) rfl rfl rfl rfl rfl (by omega) (by omega)) ?_
  refine RW.q 11 rfl rfl (by kernel_rfl) Sub.any (Qt.move rfl) ?_
  refine RW.q 12 rfl rfl (by kernel_rfl) Sub.any (Qt.slice_snn 16 (e := 5) (sz := 1) (by kernel_rfl) rfl rfl rfl (by omega)) ?_
  refine RW.one 5 (by kernel_rfl) ?_
  refine RO.eS rfl rfl (Ef.call (Cd.get B _ _ (be (UInt64.ofInt v.beg) 8) (h1.takeAll c) (by simp [length_be])) Tryz.func121 rfl rfl rfl ?_)
  rintro _ l2 ⟨rfl, hl2⟩
  try simp only [cA, nA]
  rw [hl2]
  clear hl2
  refine ⟨Sub.any, ?_⟩
  refine RW.q 6 rfl rfl (by kernel_rfl) Sub.any (Qt.convI (by kernel_rfl) (by kernel_rfl) rfl g1) ?_
  refine RW.one 9 (by kernel_rfl) ?_
  refine RO.eS rfl rfl (Ef.call (Cd.get B _ _ (be (UInt64.ofInt v.fin) 8) h2 (by simp [length_be])) Tryz.func121 rfl rfl rfl ?_)
  rintro _ l2 ⟨rfl, hl2⟩
  try simp only [cA, nA]
  rw [hl2]
  clear hl2
  refine ⟨Sub.any, ?_⟩
  refine RW.q 10 rfl rfl (by kernel_rfl) Sub.any (Qt.convI (by kernel_rfl) (by kernel_rfl) rfl g2) ?_
  refine RW.q 13 rfl rfl (by kernel_rfl) Sub.any (Qt.build [(0, 2), (2, 1), (3, 1), (4, 1)] [.int .i64 0, .int .i64 0, .int .i64 0, .int .i64 0, .slice none 0 0] [_, _, _, _, _] [(0, _), (1, _), (2, _), (3, _)] (by kernel_rfl) (by unfold zeroB; kernel_rfl) rfl rfl) ?_
  refine RW.done (by rfl) ?_
  simp only [dS, dZ, dN]
  refine LW.e0 rfl (Ef.store [_, _, _, _, _] (by kernel_rfl) rfl rfl rfl rfl (by simp) ?_)
  try simp only [splice, lC, lN, dS, cA, tS, tZ, dZ, nA, aN]
  refine LW.done ?_
  rw [hz]
  refine T.ret ?_
  exact ⟨.inl rfl, _, _, res [_] rfl ⟨rvA [_, _, _, _, _] (by kernel_rfl) rfl ⟨rfl, rfl, rfl, rfl, rfl, trivial⟩, trivial⟩, ⟨rfl, rfl⟩, Sub.any⟩
end Go.Proofs.YtiooeiapplnafaaGreatDoor

/- The package heap: find, End. Conditions: that the heap is in order; sizes. -/
namespace Go.Proofs.YtiooeiapplnafaaGreatDoor
open Go.RowKit
theorem ver_ok {h : HR} (r : RInv h) {v : Ver} (hv : v ∈ h.vs) : 1 ≤ v.beg ∧ v.beg ≤ h.last ∧ 0 ≤ v.fin ∧ v.fin ≤ h.last := by
  obtain ⟨_, _, ⟨e, he, _, h2⟩, h3⟩ := r.ok.vok v hv
  have h4 := (r.ok.eok e he).txn
  have h5 := r.lst e he
  have h0 := r.last0
  rcases h3 with h3 | ⟨e', he', _, h6⟩
  · omega
  · have h7 := (r.ok.eok e' he').txn
    have h8 := r.lst e' he'
    omega
abbrev verB5 (g : Nat) (a b c d : Int) (sl : Value) : Assn := blk g [.int .i64 a, .int .i64 b, .int .i64 c, .int .i64 d, sl] 45
def Found (l : List Ver) (page slot : Int) (g4 g5 : Nat) (X : List Assn) : Prop := (∃ (j : Nat) (v : Ver) (p : Option Addr) (mm c : Nat), slot = j ∧ l[j]? = some v ∧ X = [verB5 g4 page slot v.beg v.fin (.slice p mm c), blk g5 [.bool true] 4]) ∨ ((∀ j : Nat, slot = j → l[j]? = none) ∧ X = [verB5 g4 0 0 0 0 (.slice none 0 0), blk g5 [.bool false] 4])
set_option maxHeartbeats 2000000 in
theorem Hp.find1 (B : Base) (A : Assn) (gpg g3 g4 g5 : Nat) (l : List Ver) (m page slot : Int) (hl : ∀ v ∈ l, 0 ≤ v.beg ∧ v.beg < 9223372036854775808 ∧ 0 ≤ v.fin ∧ v.fin < 9223372036854775808) :
    Fn Tryz.prog B 124 #[pV gpg, pV g3, pV g4, pV g5] (pgA gpg (l.map verB) m :: A :: [ridB g3 page slot, verB5 g4 0 0 0 0 (.slice none 0 0), blk g5 [.bool false] 4])
      (fun u L => u = .bool false ∧ ∃ X, Found l page slot g4 g5 X ∧ L = pgA gpg (l.map verB) m :: A :: ridB g3 page slot :: X) := by
  by_cases hs : 0 ≤ slot ∧ slot < ((l.map verB).length : Int)
  · have hjl : slot.toNat < l.length := by have := hs.2; simp at this; omega
    obtain ⟨v, hv⟩ : ∃ v, l[slot.toNat]? = some v := ⟨_, List.getElem?_eq_getElem hjl⟩
    obtain ⟨v1, v2, v3, v4⟩ := hl v (List.mem_of_getElem? hv)
    refine Fn.enter4 28 Tryz.func124 rfl rfl (nB rfl) (fun F => ?_)
    try simp only [cA, nA]
    refine T.seq ?_
    refine T.region ?_
    refine LW.q rfl (Qt.assign rfl) ?_
    refine LW.done ?_
    refine T.seq ?_
    refine T.seq ?_
    refine T.region ?_
    refine LW.q rfl (Qt.move rfl) ?_
    refine LW.q rfl (Qt.fieldAddr (off := 1) (by kernel_rfl) rfl) ?_
    refine LW.q rfl (Qt.load (by kernel_rfl) rfl rfl) ?_
    refine LW.e rfl (Ef.call (Fn.own (Pg.getE B gpg (l.map verB) m slot slot.toNat (16 + v.data.length) (verB v) (by omega) (by rw [List.getElem?_map, hv]; rfl) (length_verB v))) Tryz.func65 rfl rfl rfl ?_)
    rintro _ _ ⟨⟨p1, c1, rfl, rfl⟩, w1, F1, ho1⟩
    try simp only [cA, nA]
    simp only [List.cons_append, List.nil_append] at ho1
    have hp1 := (ho1.slice_at (p := p1) (m := 16 + v.data.length) (c := c1)).2.1
    have hc1 := ho1.cap_at (p := p1) (m := 16 + v.data.length) (c := c1)
    clear ho1
    refine LW.q rfl (Qt.move rfl) ?_
    refine LW.q rfl (Qt.extr rfl rfl) ?_
    refine LW.q rfl (Qt.extr rfl rfl) ?_
    refine LW.q rfl (Qt.assign rfl) ?_
    refine LW.q rfl (Qt.assign rfl) ?_
    refine LW.done ?_
    refine T.seq ?_
    refine T.region ?_
    refine LW.q rfl (Qt.move rfl) ?_
    refine LW.q rfl (Qt.eql rfl rfl) ?_
    refine LW.q rfl (Qt.move rfl) ?_
    refine LW.gT (t := 17) rfl rfl ?_
    refine LW.q rfl (Qt.move rfl) ?_
    refine LW.q rfl (Qt.len (e := 5) (sz := 1) (by kernel_rfl) rfl) ?_
    refine LW.q rfl (Qt.geq rfl rfl) ?_
    refine LW.q rfl (Qt.pick rfl rfl) ?_
    refine LW.done ?_
    refine T.condPT rfl (by omega) ?_
    refine T.region ?_
    refine LW.q rfl (Qt.fieldAddr0 (by kernel_rfl) rfl) ?_
    refine LW.q rfl (Qt.load (by kernel_rfl) rfl rfl) ?_
    refine LW.q rfl (Qt.fieldAddr (off := 1) (by kernel_rfl) rfl) ?_
    refine LW.q rfl (Qt.load (by kernel_rfl) rfl rfl) ?_
    refine LW.q rfl (Qt.move rfl) ?_
    refine LW.e rfl (Ef.call (Hp.version B [rB (.slice p1 (16 + v.data.length) c1) (16 + v.data.length) (verB v)] page slot p1 (16 + v.data.length) c1 v (RdV.rB (length_verB v) hp1) (length_verB v) hc1 ⟨v1, v2⟩ ⟨v3, v4⟩) Tryz.func66 rfl rfl rfl ?_)
    rintro _ _ ⟨rfl, rfl⟩
    try simp only [cA, nA]
    refine LW.e0 rfl (Ef.store [_, _, _, _, _] (by kernel_rfl) rfl rfl rfl rfl (by simp) ?_)
    try simp only [splice, lC, lN, dS, cA, tS, tZ, dZ, nA, aN]
    refine LW.e0 rfl (Ef.store1 (by kernel_rfl) rfl rfl rfl (by first | (simp; done) | (simp; omega)) ?_)
    try simp only [List.set_cons_zero, List.set_cons_succ]
    refine LW.done ?_
    refine T.seq ?_
    refine T.region ?_
    refine LW.q rfl (Qt.assign rfl) ?_
    refine LW.done ?_
    refine T.ret ?_
    exact ⟨.inl rfl, _, _, res [_] rfl ⟨rvT rfl, trivial⟩, ⟨rfl, _, .inl ⟨slot.toNat, v, offA p1 c1 16 1, v.data.length, c1 - 16, by omega, hv, rfl⟩, rfl⟩, Sub.any⟩
  · skip
    refine Fn.enter4 28 Tryz.func124 rfl rfl (nB rfl) (fun F => ?_)
    try simp only [cA, nA]
    refine T.seq ?_
    refine T.region ?_
    refine LW.q rfl (Qt.assign rfl) ?_
    refine LW.done ?_
    refine T.seq ?_
    refine T.seq ?_
    refine T.region ?_
    refine LW.q rfl (Qt.move rfl) ?_
    refine LW.q rfl (Qt.fieldAddr (off := 1) (by kernel_rfl) rfl) ?_
    refine LW.q rfl (Qt.load (by kernel_rfl) rfl rfl) ?_
    refine LW.e rfl (Ef.call (Pg.get_no B gpg (l.map verB) m slot hs) Tryz.func65 rfl rfl rfl ?_)
    rintro _ _ ⟨rfl, rfl⟩
    try simp only [cA, nA]
    refine LW.q rfl (Qt.move rfl) ?_
    refine LW.q rfl (Qt.extr rfl rfl) ?_
    refine LW.q rfl (Qt.extr rfl rfl) ?_
    refine LW.q rfl (Qt.assign rfl) ?_
    refine LW.q rfl (Qt.assign rfl) ?_
    refine LW.done ?_
    refine T.seq ?_
    refine T.region ?_
    refine LW.q rfl (Qt.move rfl) ?_
    refine LW.q rfl (Qt.eql rfl rfl) ?_
    refine LW.q rfl (Qt.move rfl) ?_
    refine LW.gF (t := 17) rfl rfl ?_
    refine LW.s rfl ?_
    refine LW.s rfl ?_
    refine LW.s rfl ?_
    refine LW.q rfl (Qt.pick rfl rfl) ?_
    refine LW.done ?_
    refine T.condF rfl ?_
    refine T.skip ?_
    refine T.seq ?_
    refine T.region ?_
    refine LW.q rfl (Qt.assign rfl) ?_
    refine LW.done ?_
    refine T.ret ?_
    exact ⟨.inl rfl, _, _, res [_] rfl ⟨rvT rfl, trivial⟩, ⟨rfl, _, .inr ⟨fun j hj => List.getElem?_eq_none (by simp at hs; omega), rfl⟩, rfl⟩, Sub.any⟩
def FindR (h : HR) (page slot : Int) (u : Value) : Prop := (∃ (v : Ver) (p : Option Addr) (mm c : Nat), (findV h.vs page slot).bind (h.vs[·]?) = some v ∧ u = .tuple #[.agg #[.int .i64 page, .int .i64 slot, .int .i64 v.beg, .int .i64 v.fin, .slice p mm c], .bool true]) ∨ ((findV h.vs page slot).bind (h.vs[·]?) = none ∧ u = .tuple #[.agg #[.int .i64 0, .int .i64 0, .int .i64 0, .int .i64 0, .slice none 0 0], .bool false])
set_option maxHeartbeats 4000000 in
set_option maxRecDepth 100000 in
theorem Hp.find (B : Base) (g b logs count n K : Nat) (h : HR) (hK : K < 2 ^ 29) (page slot : Int) (x : HpX) (hi : HInv logs count n K x.s x.st h) (pc : Option Addr) (cc : Nat) :
    Fn Tryz.prog B 68 #[pV g, .agg #[.int .i64 page, .int .i64 slot]] [hpB g x.q pc h.cm.length cc h.last, wlS b x.q x.s, plS b n logs count x.q x.s, dskA b x.s.D]
      (fun u l => ∃ s', SInv logs count n (K + 1) s' h.es (recsOf h.vs) ∧ FindR h page slot u ∧ l = [hpB g x.q pc h.cm.length cc h.last, wlS b x.q s', plS b n logs count x.q s', dskA b s'.D]) := by
  have hpg := hi.pages
  have hct := hi.cnt
  have hlk : h.last < 2 ^ 62 := by have := hi.lastK; omega
  by_cases hr : 0 ≤ page ∧ page < (count : Int)
  · obtain ⟨q, rfl⟩ : ∃ q : Nat, page = q := ⟨page.toNat, by omega⟩
    have hvl : ∀ v ∈ pageV h.vs q, 0 ≤ v.beg ∧ v.beg < 9223372036854775808 ∧ 0 ≤ v.fin ∧ v.fin < 9223372036854775808 := fun v hv => by
      have := ver_ok hi.r (mem_of_filt hv)
      omega
    have hfp := findV_page hi.r.ok.slots q slot
    refine Fn.enter2 29 Tryz.func68 rfl rfl (nB rfl) (fun F => ?_)
    try simp only [cA, nA]
    refine T.seq ?_
    refine T.region ?_
    refine LW.e rfl (Ef.box [_, _] rfl rfl ?_)
    intro g3
    refine LW.e rfl (Ef.alloc [.int .i64 0, .int .i64 0, .int .i64 0, .int .i64 0, .slice none 0 0] (by unfold zeroB; kernel_rfl) ?_)
    intro g4
    refine LW.e rfl (Ef.alloc [.bool false] (by unfold zeroB; kernel_rfl) ?_)
    intro g5
    refine LW.done ?_
    refine T.seq ?_
    refine T.seq ?_
    refine T.draw 15 ([hpB g x.q pc h.cm.length cc h.last, ridB g3 q slot]) (by kernel_rfl) (nB rfl) (by kernel_rfl) ?_
    refine RW.q 0 rfl rfl (by kernel_rfl) Sub.any (Qt.fieldAddr0 (by kernel_rfl) rfl) ?_
    refine RW.q 1 rfl rfl (by kernel_rfl) Sub.any (Qt.load (by kernel_rfl) rfl rfl) ?_
    refine RW.q 2 rfl rfl (by kernel_rfl) Sub.any (Qt.lss rfl rfl) ?_
    refine RW.q 3 rfl rfl (by kernel_rfl) Sub.any (Qt.move rfl) ?_
    refine RW.gF (t := 9) rfl rfl ?_
    refine RW.q 4 rfl rfl (by kernel_rfl) Sub.any (Qt.fieldAddr0 (by kernel_rfl) rfl) ?_
    refine RW.q 5 rfl rfl (by kernel_rfl) Sub.any (Qt.load (by kernel_rfl) rfl rfl) ?_
    refine RW.q 6 rfl rfl (by kernel_rfl) Sub.any (Qt.move rfl) ?_
    refine RW.q 7 rfl rfl (by kernel_rfl) Sub.any (Qt.nilCheck rfl) ?_
    refine RW.q 8 rfl rfl (by kernel_rfl) Sub.any (Qt.fieldAddr (off := 4) (by kernel_rfl) rfl) ?_
    refine RW.q 9 rfl rfl (by kernel_rfl) Sub.any (Qt.load (by kernel_rfl) rfl rfl) ?_
    refine RW.q 10 rfl rfl (by kernel_rfl) Sub.any (Qt.nilCheck rfl) ?_
    refine RW.q 11 rfl rfl (by kernel_rfl) Sub.any (Qt.fieldAddr0 (by kernel_rfl) rfl) ?_
    refine RW.one 12 (by kernel_rfl) ?_
    refine RO.eS rfl rfl (Ef.call (Bp.pages B x.q.gp b n logs count x.s.hand x.q.gl x.s.A) Tryz.func58 rfl rfl rfl ?_)
    rintro _ _ ⟨rfl, rfl⟩
    try simp only [cA, nA]
    refine ⟨Sub.any, ?_⟩
    refine RW.q 13 rfl rfl (by kernel_rfl) Sub.any (Qt.geq rfl rfl) ?_
    refine RW.q 14 rfl rfl (by kernel_rfl) Sub.any (Qt.pick rfl rfl) ?_
    refine RW.done (by rfl) ?_
    simp only [dS, dZ, dN]
    refine LW.done ?_
    refine T.condPF rfl (by omega) ?_
    refine T.skip ?_
    refine T.seq ?_
    refine T.region ?_
    refine LW.q rfl (Qt.move rfl) ?_
    refine LW.q rfl (Qt.fieldAddr0 (by kernel_rfl) rfl) ?_
    refine LW.q rfl (Qt.load (by kernel_rfl) rfl rfl) ?_
    refine LW.q rfl (Qt.makeFunc [_, _, _] rfl) ?_
    refine LW.e rfl (Ef.call (Hp.with B g b n logs count K x.q pc h.cm.length cc h.last x.s h.es (recsOf h.vs) hi.s (by omega) q (by omega) q rfl 0 0 rfl (by omega) 124 Tryz.f124 [pV g3, pV g4, pV g5] [ridB g3 q slot, verB5 g4 0 0 0 0 (.slice none 0 0), blk g5 [.bool false] 4] (fun bb r' X' => bb = false ∧ ∃ X, Found (pageV h.vs q) q slot g4 g5 X ∧ X' = ridB g3 q slot :: X) Tryz.func124 rfl rfl (fun gpg m => (Hp.find1 B (hpB g x.q pc h.cm.length cc h.last) gpg g3 g4 g5 (pageV h.vs q) m q slot hvl).mono (fun v l ⟨h1, X, h2, h3⟩ => ⟨false, _, _, ⟨rfl, X, h2, rfl⟩, h1, h3⟩)) (fun r' X' hh => by obtain ⟨h1, _⟩ := hh; cases h1)) Tryz.func59 rfl rfl rfl ?_)
    rintro _ _ ⟨bb, r', X', s', ⟨rfl, X, hX, rfl⟩, hS, rfl, rfl⟩
    try simp only [cA, nA]
    have hS2 : SInv logs count n (K + 1) s' h.es (recsOf h.vs) := by simpa [rcSet] using hS
    refine LW.done ?_
    refine T.seq ?_
    by_cases hfo : ∃ (j : Nat) (v : Ver) (p : Option Addr) (mm c : Nat), slot = j ∧ (pageV h.vs q)[j]? = some v ∧ X = [verB5 g4 q slot v.beg v.fin (.slice p mm c), blk g5 [.bool true] 4]
    · skip
      obtain ⟨j, v, p, mm, c, rfl, hv, rfl⟩ := hfo
      simp only [List.cons_append, List.nil_append]
      refine T.drawAll 3 (by kernel_rfl) (nB rfl) (by kernel_rfl) ?_
      refine RW.q 0 rfl rfl (by kernel_rfl) (Sub.refl _) (Qt.loadAgg [_, _, _, _, _] (by kernel_rfl) rfl ⟨rfl, rfl, rfl, rfl, rfl, trivial⟩) ?_
      refine RW.q 1 rfl rfl (by kernel_rfl) (Sub.refl _) (Qt.load (by kernel_rfl) rfl rfl) ?_
      refine RW.one 2 (by kernel_rfl) ?_
      refine RO.e0 rfl rfl (Ef.store [_, _, _, _, _] (by kernel_rfl) rfl rfl rfl rfl (by simp) ?_)
      try simp only [splice, lC, lN, dS, cA, tS, tZ, dZ, nA, aN]
      refine ⟨Sub.any, ?_⟩
      refine RW.done (by rfl) ?_
      simp only [dS, dZ, dN]
      refine LW.e0 rfl (Ef.store1 (by kernel_rfl) rfl rfl rfl (by first | (simp; done) | (simp; omega)) ?_)
      try simp only [List.set_cons_zero, List.set_cons_succ]
      refine LW.done ?_
      refine T.ret ?_
      exact ⟨.inl rfl, _, _, res [_, _] rfl ⟨rvA [_, _, _, _, _] (by kernel_rfl) rfl ⟨rfl, rfl, rfl, rfl, rfl, trivial⟩, rvC (by kernel_rfl) rfl rfl, trivial⟩, ⟨s', hS2, .inl ⟨v, p, mm, c, by rw [hfp, if_pos (by omega)]; simpa using hv, rfl⟩, rfl⟩, Sub.any⟩
    · skip
      obtain ⟨hn, rfl⟩ := hX.resolve_left hfo
      simp only [List.cons_append, List.nil_append]
      refine T.drawAll 3 (by kernel_rfl) (nB rfl) (by kernel_rfl) ?_
      refine RW.q 0 rfl rfl (by kernel_rfl) (Sub.refl _) (Qt.loadAgg [_, _, _, _, _] (by kernel_rfl) rfl ⟨rfl, rfl, rfl, rfl, rfl, trivial⟩) ?_
      refine RW.q 1 rfl rfl (by kernel_rfl) (Sub.refl _) (Qt.load (by kernel_rfl) rfl rfl) ?_
      refine RW.one 2 (by kernel_rfl) ?_
      refine RO.e0 rfl rfl (Ef.store [_, _, _, _, _] (by kernel_rfl) rfl rfl rfl rfl (by simp) ?_)
      try simp only [splice, lC, lN, dS, cA, tS, tZ, dZ, nA, aN]
      refine ⟨Sub.any, ?_⟩
      refine RW.done (by rfl) ?_
      simp only [dS, dZ, dN]
      refine LW.e0 rfl (Ef.store1 (by kernel_rfl) rfl rfl rfl (by first | (simp; done) | (simp; omega)) ?_)
      try simp only [List.set_cons_zero, List.set_cons_succ]
      refine LW.done ?_
      refine T.ret ?_
      exact ⟨.inl rfl, _, _, res [_, _] rfl ⟨rvA [_, _, _, _, _] (by kernel_rfl) rfl ⟨rfl, rfl, rfl, rfl, rfl, trivial⟩, rvC (by kernel_rfl) rfl rfl, trivial⟩, ⟨s', hS2, .inr ⟨by rw [hfp]; split; (next h0 => simpa using hn slot.toNat (by omega)); rfl, rfl⟩, rfl⟩, Sub.any⟩
  · have hnone : (findV h.vs page slot).bind (h.vs[·]?) = none := by
      rw [findV_page hi.r.ok.slots]
      split
      · rename_i h0
        refine List.getElem?_eq_none ?_
        have : pageV h.vs page.toNat = [] := by
          unfold pageV
          rw [List.filter_eq_nil_iff]
          intro v hv
          have := (hi.r.ok.vok v hv).1
          simp; omega
        rw [this]; simp
      · rfl
    refine Fn.enter2 29 Tryz.func68 rfl rfl (nB rfl) (fun F => ?_)
    try simp only [cA, nA]
    refine T.seq ?_
    refine T.region ?_
    refine LW.e rfl (Ef.box [_, _] rfl rfl ?_)
    intro g3
    refine LW.e rfl (Ef.alloc [.int .i64 0, .int .i64 0, .int .i64 0, .int .i64 0, .slice none 0 0] (by unfold zeroB; kernel_rfl) ?_)
    intro g4
    refine LW.e rfl (Ef.alloc [.bool false] (by unfold zeroB; kernel_rfl) ?_)
    intro g5
    refine LW.done ?_
    refine T.seq ?_
    refine T.seq ?_
    refine T.draw 15 ([hpB g x.q pc h.cm.length cc h.last, ridB g3 page slot]) (by kernel_rfl) (nB rfl) (by kernel_rfl) ?_
    refine RW.q 0 rfl rfl (by kernel_rfl) Sub.any (Qt.fieldAddr0 (by kernel_rfl) rfl) ?_
    refine RW.q 1 rfl rfl (by kernel_rfl) Sub.any (Qt.load (by kernel_rfl) rfl rfl) ?_
    refine RW.q 2 rfl rfl (by kernel_rfl) Sub.any (Qt.lss rfl rfl) ?_
    refine RW.q 3 rfl rfl (by kernel_rfl) Sub.any (Qt.move rfl) ?_
    by_cases h0 : page < 0
    · skip
      refine RW.gT (t := 9) rfl (decide_eq_true (by omega)) ?_
      refine RW.s 4 rfl rfl (by kernel_rfl) Sub.any ?_
      refine RW.s 5 rfl rfl (by kernel_rfl) Sub.any ?_
      refine RW.s 6 rfl rfl (by kernel_rfl) Sub.any ?_
      refine RW.s 7 rfl rfl (by kernel_rfl) Sub.any ?_
      refine RW.s 8 rfl rfl (by kernel_rfl) Sub.any ?_
      refine RW.s 9 rfl rfl (by kernel_rfl) Sub.any ?_
      refine RW.s 10 rfl rfl (by kernel_rfl) Sub.any ?_
      refine RW.s 11 rfl rfl (by kernel_rfl) Sub.any ?_
      refine RW.s 12 rfl rfl (by kernel_rfl) Sub.any ?_
      refine RW.s 13 rfl rfl (by kernel_rfl) Sub.any ?_
      refine RW.q 14 rfl rfl (by kernel_rfl) Sub.any (Qt.pick rfl rfl) ?_
      refine RW.done (by rfl) ?_
      simp only [dS, dZ, dN]
      refine LW.done ?_
      refine T.condT rfl ?_
      refine T.seq ?_
      refine T.region ?_
      refine LW.q rfl (Qt.loadAgg [_, _, _, _, _] (by kernel_rfl) rfl ⟨rfl, rfl, rfl, rfl, rfl, trivial⟩) ?_
      refine LW.e0 rfl (Ef.store [_, _, _, _, _] (by kernel_rfl) rfl rfl rfl rfl (by simp) ?_)
      try simp only [splice, lC, lN, dS, cA, tS, tZ, dZ, nA, aN]
      refine LW.e0 rfl (Ef.store1 (by kernel_rfl) rfl rfl rfl (by first | (simp; done) | (simp; omega)) ?_)
      try simp only [List.set_cons_zero, List.set_cons_succ]
      refine LW.done ?_
      refine T.ret ?_
      exact ⟨.inl rfl, _, _, res [_, _] rfl ⟨rvA [_, _, _, _, _] (by kernel_rfl) rfl ⟨rfl, rfl, rfl, rfl, rfl, trivial⟩, rvC (by kernel_rfl) rfl rfl, trivial⟩, ⟨x.s, hi.s.mono (by omega), .inr ⟨hnone, rfl⟩, rfl⟩, Sub.any⟩
    · skip
      refine RW.gF (t := 9) rfl (decide_eq_false (by omega)) ?_
      refine RW.q 4 rfl rfl (by kernel_rfl) Sub.any (Qt.fieldAddr0 (by kernel_rfl) rfl) ?_
      refine RW.q 5 rfl rfl (by kernel_rfl) Sub.any (Qt.load (by kernel_rfl) rfl rfl) ?_
      refine RW.q 6 rfl rfl (by kernel_rfl) Sub.any (Qt.move rfl) ?_
      refine RW.q 7 rfl rfl (by kernel_rfl) Sub.any (Qt.nilCheck rfl) ?_
      refine RW.q 8 rfl rfl (by kernel_rfl) Sub.any (Qt.fieldAddr (off := 4) (by kernel_rfl) rfl) ?_
      refine RW.q 9 rfl rfl (by kernel_rfl) Sub.any (Qt.load (by kernel_rfl) rfl rfl) ?_
      refine RW.q 10 rfl rfl (by kernel_rfl) Sub.any (Qt.nilCheck rfl) ?_
      refine RW.q 11 rfl rfl (by kernel_rfl) Sub.any (Qt.fieldAddr0 (by kernel_rfl) rfl) ?_
      refine RW.one 12 (by kernel_rfl) ?_
      refine RO.eS rfl rfl (Ef.call (Bp.pages B x.q.gp b n logs count x.s.hand x.q.gl x.s.A) Tryz.func58 rfl rfl rfl ?_)
      rintro _ _ ⟨rfl, rfl⟩
      try simp only [cA, nA]
      refine ⟨Sub.any, ?_⟩
      refine RW.q 13 rfl rfl (by kernel_rfl) Sub.any (Qt.geq rfl rfl) ?_
      refine RW.q 14 rfl rfl (by kernel_rfl) Sub.any (Qt.pick rfl rfl) ?_
      refine RW.done (by rfl) ?_
      simp only [dS, dZ, dN]
      refine LW.done ?_
      refine T.condPT rfl (by omega) ?_
      refine T.seq ?_
      refine T.region ?_
      refine LW.q rfl (Qt.loadAgg [_, _, _, _, _] (by kernel_rfl) rfl ⟨rfl, rfl, rfl, rfl, rfl, trivial⟩) ?_
      refine LW.e0 rfl (Ef.store [_, _, _, _, _] (by kernel_rfl) rfl rfl rfl rfl (by simp) ?_)
      try simp only [splice, lC, lN, dS, cA, tS, tZ, dZ, nA, aN]
      refine LW.e0 rfl (Ef.store1 (by kernel_rfl) rfl rfl rfl (by first | (simp; done) | (simp; omega)) ?_)
      try simp only [List.set_cons_zero, List.set_cons_succ]
      refine LW.done ?_
      refine T.ret ?_
      exact ⟨.inl rfl, _, _, res [_, _] rfl ⟨rvA [_, _, _, _, _] (by kernel_rfl) rfl ⟨rfl, rfl, rfl, rfl, rfl, trivial⟩, rvC (by kernel_rfl) rfl rfl, trivial⟩, ⟨x.s, hi.s.mono (by omega), .inr ⟨hnone, rfl⟩, rfl⟩, Sub.any⟩
end Go.Proofs.YtiooeiapplnafaaGreatDoor

/- The package heap: End. Conditions: that the heap is in order; sizes. -/
namespace Go.Proofs.YtiooeiapplnafaaGreatDoor
open Go.RowKit
theorem modify_set {α : Type} {a : α} : ∀ {l : List α} {i : Nat}, l[i]? = some a → ∀ f : α → α, l.modify i f = l.set i (f a)
  | [], _, h, _ => by simp at h
  | b :: l, 0, h, f => by simp at h; simp [h]
  | b :: l, i + 1, h, f => by simp [modify_set (l := l) (i := i) (by simpa using h) f]
section
variable {h : HR} {t page slot : Int} {v : Ver}
theorem end4 (hc : isAct h t = true) (hv : (findV h.vs page slot).bind (h.vs[·]?) = some v) (hb : (v.beg ≠ t ∧ isCm h v.beg = false) ∨ v.fin = t ∨ isCm h v.fin = true) : endR h t page slot = (h, 4) := by
  unfold endR; rw [if_pos hc, hv]; dsimp only; rw [if_pos hb]
theorem not_bad (hbg : v.beg = t ∨ isCm h v.beg = true) (h5 : ¬ v.fin = t) (hcf : isCm h v.fin = false) : ¬ ((v.beg ≠ t ∧ isCm h v.beg = false) ∨ v.fin = t ∨ isCm h v.fin = true) := by
  rintro (⟨q1, q2⟩ | q | q)
  · rcases hbg with k | k
    · exact q1 k
    · rw [k] at q2; cases q2
  · exact h5 q
  · rw [hcf] at q; cases q
theorem end71 (hc : isAct h t = true) (hv : (findV h.vs page slot).bind (h.vs[·]?) = some v) (hbg : v.beg = t ∨ isCm h v.beg = true) (h5 : ¬ v.fin = t) (hcf : isCm h v.fin = false) (haf : isAct h v.fin = true) : endR h t page slot = (h, 71) := by
  unfold endR; rw [if_pos hc, hv]; dsimp only; rw [if_neg (not_bad hbg h5 hcf), if_pos haf]
theorem end3 (hc : isAct h t = true) (hv : (findV h.vs page slot).bind (h.vs[·]?) = some v) (hbg : v.beg = t ∨ isCm h v.beg = true) (h5 : v.fin ≠ t) (hcf : isCm h v.fin = false) (haf : isAct h v.fin = false) (hf : (h.room : Int) < h.used + 20) : endR h t page slot = (h, 3) := by
  unfold endR; rw [if_pos hc, hv]; dsimp only; rw [if_neg (not_bad hbg h5 hcf), if_neg (by simp [haf]), if_pos hf]
theorem end0 (hc : isAct h t = true) (hv : (findV h.vs page slot).bind (h.vs[·]?) = some v) (hbg : v.beg = t ∨ isCm h v.beg = true) (h5 : v.fin ≠ t) (hcf : isCm h v.fin = false) (haf : isAct h v.fin = false) (hf : ¬ (h.room : Int) < h.used + 20) : endR h t page slot = (writeR h (endE t page slot), 0) := by
  unfold endR; rw [if_pos hc, hv]; dsimp only; rw [if_neg (not_bad hbg h5 hcf), if_neg (by simp [haf]), if_neg hf]
theorem rc_end (r : RepOk h) {i : Nat} (hi : findV h.vs page slot = some i) (hv : h.vs[i]? = some v) : rcSet (recsOf h.vs) true v.page ((recsOf h.vs v.page).set v.slot (setB 8 (be (UInt64.ofInt t) 8) (verB v))) = recsOf (writeR h (endE t page slot)).vs := by
  obtain ⟨u, hu, e1, e2⟩ := findV_some hi
  rw [hv] at hu; cases hu
  have hp := page_at r.slots hv
  funext x
  rw [recs_end (h := h) (e := endE t page slot) r rfl hi hv x]
  unfold rcSet
  simp only [if_true]
  have e3 : page.toNat = v.page := by omega
  have e4 : slot.toNat = v.slot := by omega
  by_cases e : x = v.page
  · subst e
    rw [if_pos rfl, if_pos e3.symm, e4]
    have hl := (List.getElem?_eq_some_iff.1 hp).1
    have hr : (recsOf h.vs v.page)[v.slot]? = some (verB v) := by unfold recsOf; rw [List.getElem?_map, hp]; rfl
    have hl2 := (List.getElem?_eq_some_iff.1 hr)
    obtain ⟨q1, q2⟩ := hl2
    exact (modify_set hr _).symm
  · rw [if_neg e, if_neg (by rw [e3]; exact e)]
end
set_option maxHeartbeats 8000000 in
set_option maxRecDepth 100000 in
theorem Hp.end_ (B : Base) (g b logs count n K : Nat) (h : HR) (hK : K < 2 ^ 28) (t page slot : Int) :
    Fn Tryz.prog B 22 #[pV g, .int .i64 t, .agg #[.int .i64 page, .int .i64 slot]] [hpA g b logs count n K h] (fun u l => u = .int .i64 (endR h t page slot).2 ∧ l = [hpA g b logs count n (K + 2) (endR h t page slot).1]) := by
  refine Fn.openHp fun x hi hp => ?_
  simp only [hpC, List.cons_append, List.nil_append]
  have ha := hi.st.act t
  have hi1 : HInv logs count n (K + 2) x.s x.st h := hi.mono (by omega)
  by_cases hc : isAct h t = true
  · have hct := hi.cnt
    have hpg := hi.pages
    have hu := hi.used
    have hr := hi.room
    have hlk : h.last < 2 ^ 62 := by have := hi.lastK; omega
    refine Fn.enter3 75 Tryz.func22 rfl rfl (nB rfl) (fun F => ?_)
    try simp only [cA, nA]
    refine T.seq ?_
    refine T.region ?_
    refine LW.e rfl (Ef.box [_, _] rfl rfl ?_)
    intro g5
    refine LW.q rfl (Qt.assign rfl) ?_
    refine LW.done ?_
    refine T.seq ?_
    refine T.seq ?_
    refine T.region ?_
    refine LW.q rfl (Qt.move rfl) ?_
    refine LW.q rfl (Qt.nilCheck rfl) ?_
    refine LW.q rfl (Qt.fieldAddr0 (by kernel_rfl) rfl) ?_
    refine LW.q rfl (Qt.fieldAddr0 (by kernel_rfl) rfl) ?_
    refine LW.q rfl (Qt.load (by kernel_rfl) rfl rfl) ?_
    refine LW.q rfl (Qt.move rfl) ?_
    refine LW.q rfl (Qt.look1 Hp.okS rfl t rfl 0 rfl) ?_
    refine LW.q rfl (Qt.neq rfl rfl) ?_
    refine LW.done ?_
    refine T.condPF rfl ((fun q => q (ha.2 hc))) ?_
    refine T.skip ?_
    refine T.seq ?_
    refine T.region ?_
    refine LW.q rfl (Qt.move rfl) ?_
    refine LW.q rfl (Qt.loadAgg [_, _] (by kernel_rfl) rfl ⟨rfl, rfl, trivial⟩) ?_
    refine LW.e rfl (Ef.call (Hp.find B g b logs count n K h (by omega) page slot x hi x.pc x.cc) Tryz.func68 rfl rfl rfl ?_)
    rintro u _ ⟨s', hS, hfd, rfl⟩
    try simp only [cA, nA]
    by_cases hfo : ∃ (v : Ver) (p : Option Addr) (mm c : Nat), (findV h.vs page slot).bind (h.vs[·]?) = some v ∧ u = .tuple #[.agg #[.int .i64 page, .int .i64 slot, .int .i64 v.beg, .int .i64 v.fin, .slice p mm c], .bool true]
    · skip
      have hi2 : HInv logs count n (K + 2) s' x.st h := ⟨hS.mono (by omega), hi.r, hi.st, hi.pages, hi.room, by have := hi.lastK; omega⟩
      have hu2 := hi2.used
      obtain ⟨v, p, mm, c, hv, rfl⟩ := hfo
      obtain ⟨i, hfi, hvi⟩ : ∃ i, findV h.vs page slot = some i ∧ h.vs[i]? = some v := by
        cases hq : findV h.vs page slot with
        | none => rw [hq] at hv; cases hv
        | some i => rw [hq] at hv; exact ⟨i, rfl, hv⟩
      obtain ⟨v0, hv0, hvp, hvs⟩ := findV_some hfi
      rw [hvi] at hv0
      cases hv0
      have hvo := ver_ok hi.r (List.mem_of_getElem? hvi)
      have hvk := hi.r.ok.vok v (List.mem_of_getElem? hvi)
      have hrv : (recsOf h.vs v.page)[v.slot]? = some (verB v) := by unfold recsOf; rw [List.getElem?_map, page_at hi.r.ok.slots hvi]; rfl
      have hokE : EnOk (endE t page slot) := by
        have h1 := hi.r.act1 t (isAct_iff.1 hc)
        have h3 := pages_len hi.r.ok v.page
        have h4 := (List.getElem?_eq_some_iff.1 (page_at hi.r.ok.slots hvi)).1
        exact ⟨by simp, by simp; omega, by simp only [enPlace]; omega, by simp, by simp, by simp, by simp, by simp⟩
      have hsz : enSz (endE t page slot) = 20 := by rw [enSz_eq]; simp
      refine LW.q rfl (Qt.move rfl) ?_
      refine LW.q rfl (Qt.extr rfl rfl) ?_
      refine LW.q rfl (Qt.extr rfl rfl) ?_
      refine LW.e rfl (Ef.alloc [.int .i64 0, .int .i64 0, .int .i64 0, .int .i64 0, .slice none 0 0] (by unfold zeroB; kernel_rfl) ?_)
      intro g7
      refine LW.e0 rfl (Ef.store [_, _, _, _, _] (by kernel_rfl) rfl rfl rfl rfl (by simp) ?_)
      try simp only [splice, lC, lN, dS, cA, tS, tZ, dZ, nA, aN]
      refine LW.q rfl (Qt.assign rfl) ?_
      refine LW.done ?_
      refine T.seq ?_
      refine T.seq ?_
      refine T.draw 17 ([hpB g x.q x.pc h.cm.length x.cc h.last, stA x.q x.st, verB5 g7 page slot v.beg v.fin (.slice p mm c)]) (by kernel_rfl) (nB rfl) (by kernel_rfl) ?_
      refine RW.q 0 rfl rfl (by kernel_rfl) Sub.any (Qt.move rfl) ?_
      refine RW.q 1 rfl rfl (by kernel_rfl) Sub.any (Qt.nilCheck rfl) ?_
      refine RW.q 2 rfl rfl (by kernel_rfl) Sub.any (Qt.fieldAddr0 (by kernel_rfl) rfl) ?_
      refine RW.q 3 rfl rfl (by kernel_rfl) Sub.any (Qt.fieldAddr0 (by kernel_rfl) rfl) ?_
      refine RW.q 4 rfl rfl (by kernel_rfl) Sub.any (Qt.load (by kernel_rfl) rfl rfl) ?_
      refine RW.q 5 rfl rfl (by kernel_rfl) Sub.any (Qt.fieldAddr (off := 2) (by kernel_rfl) rfl) ?_
      refine RW.q 6 rfl rfl (by kernel_rfl) Sub.any (Qt.load (by kernel_rfl) rfl rfl) ?_
      refine RW.q 7 rfl rfl (by kernel_rfl) Sub.any (Qt.look1 Hp.okS rfl v.beg rfl 0 rfl) ?_
      refine RW.q 8 rfl rfl (by kernel_rfl) Sub.any (Qt.move rfl) ?_
      refine RW.q 9 rfl rfl (by kernel_rfl) Sub.any (Qt.nilCheck rfl) ?_
      refine RW.q 10 rfl rfl (by kernel_rfl) Sub.any (Qt.fieldAddr0 (by kernel_rfl) rfl) ?_
      refine RW.q 11 rfl rfl (by kernel_rfl) Sub.any (Qt.fieldAddr0 (by kernel_rfl) rfl) ?_
      refine RW.q 12 rfl rfl (by kernel_rfl) Sub.any (Qt.load (by kernel_rfl) rfl rfl) ?_
      refine RW.q 13 rfl rfl (by kernel_rfl) Sub.any (Qt.fieldAddr (off := 3) (by kernel_rfl) rfl) ?_
      refine RW.q 14 rfl rfl (by kernel_rfl) Sub.any (Qt.load (by kernel_rfl) rfl rfl) ?_
      refine RW.q 15 rfl rfl (by kernel_rfl) Sub.any (Qt.look1 Hp.okS rfl v.fin rfl 0 rfl) ?_
      refine RW.q 16 rfl rfl (by kernel_rfl) Sub.any (Qt.assign rfl) ?_
      refine RW.done (by rfl) ?_
      simp only [dS, dZ, dN]
      refine LW.q rfl (Qt.assign rfl) ?_
      refine LW.done ?_
      refine T.block ?_
      refine T.cut (fun fz lz => ∃ (f0 : Fr) (bb : Bool), ((bb = true → (v.beg ≠ t ∧ isCm h v.beg = false) ∨ v.fin = t ∨ isCm h v.fin = true) ∧ (bb = false → (v.beg = t ∨ isCm h v.beg = true) ∧ v.fin ≠ t ∧ isCm h v.fin = false)) ∧ fz = (upd (upd (upd (upd (upd f0 0 (pV g)) 1 (.int .i64 t)) 5 (pV g5)) 10 (.int .i64 (lookS x.st v.fin))) 41 (.bool bb)) ∧ lz = ridB g5 page slot :: hpB g x.q x.pc h.cm.length x.cc h.last :: stA x.q x.st :: cmR x.pc h.cm.length x.cc h.cm :: wlS b x.q s' :: plS b n logs count x.q s' :: dskA b s'.D :: F) ?_ ?_
      · skip
        refine T.seq ?_
        refine T.region ?_
        refine LW.q rfl (Qt.move rfl) ?_
        refine LW.q rfl (Qt.notB rfl) ?_
        refine LW.q rfl (Qt.assign rfl) ?_
        refine LW.done ?_
        refine T.condF rfl ?_
        refine T.seq ?_
        refine T.region ?_
        refine LW.q rfl (Qt.move rfl) ?_
        refine LW.q rfl (Qt.eql rfl rfl) ?_
        refine LW.q rfl (Qt.assign rfl) ?_
        refine LW.done ?_
        refine T.condP rfl (fun h0 => ?_) (fun h0 => ?_)
        · skip
          have h00 := stN_lost.1 ((hi.st v.beg).symm.trans h0)
          refine T.skip ?_
          exact ⟨_, ⟨_, decide ((lookL x.st v.beg).getD 0 = 0), ⟨fun _ => .inl ⟨(fun hq => by rw [hq, hc] at h00; cases h00.1), h00.2⟩, fun hq => absurd h0 (of_decide_eq_false hq)⟩, (updS rfl (updS rfl (updS rfl (updS rfl (updS rfl rfl))))), rfl⟩, Sub.any⟩
        · skip
          refine T.seq ?_
          refine T.region ?_
          refine LW.q rfl (Qt.move rfl) ?_
          refine LW.q rfl (Qt.eql rfl rfl) ?_
          refine LW.q rfl (Qt.move rfl) ?_
          refine LW.split (t := 48) rfl (fun h1 => ?_) (fun h1 => ?_)
          · skip
            try replace h1 := of_decide_eq_true h1
            have hab := (hi.st.act v.beg).1 h1
            have hcb := hi.r.actcm v.beg (isAct_iff.1 hab)
            refine LW.q rfl (Qt.fieldAddr (off := 2) (by kernel_rfl) rfl) ?_
            refine LW.q rfl (Qt.load (by kernel_rfl) rfl rfl) ?_
            refine LW.q rfl (Qt.move rfl) ?_
            refine LW.q rfl (Qt.neq rfl rfl) ?_
            refine LW.q rfl (Qt.pick rfl rfl) ?_
            refine LW.q rfl (Qt.assign rfl) ?_
            refine LW.done ?_
            refine T.condP rfl (fun h2 => ?_) (fun h2 => ?_)
            · skip
              refine T.skip ?_
              exact ⟨_, ⟨_, decide (v.beg ≠ t), ⟨fun _ => .inl ⟨h2, hcb⟩, fun hq => absurd h2 (of_decide_eq_false hq)⟩, (updS rfl (updS rfl (updS rfl (updS rfl (updS rfl rfl))))), rfl⟩, Sub.any⟩
            · skip
              have hbg : v.beg = t ∨ isCm h v.beg = true := .inl (Decidable.not_not.1 h2)
              refine T.seq ?_
              refine T.region ?_
              refine LW.q rfl (Qt.move rfl) ?_
              refine LW.q rfl (Qt.eql rfl rfl) ?_
              refine LW.q rfl (Qt.assign rfl) ?_
              refine LW.done ?_
              refine T.condP rfl (fun h3 => ?_) (fun h3 => ?_)
              · skip
                refine T.skip ?_
                exact ⟨_, ⟨_, decide ((lookL x.st v.fin).getD 0 = 2), ⟨fun _ => .inr (.inr ((stN_cm hi.r).1 (by rw [← hi.st v.fin]; exact h3))), fun hq => absurd h3 (of_decide_eq_false hq)⟩, (updS rfl (updS rfl (updS rfl (updS rfl (updS rfl rfl))))), rfl⟩, Sub.any⟩
              · skip
                have hcf : isCm h v.fin = false := by
                  cases hq : isCm h v.fin with
                  | false => rfl
                  | true => exact absurd (by rw [show (lookL x.st v.fin).getD 0 = stN h v.fin from hi.st v.fin]; exact (stN_cm hi.r).2 hq) h3
                refine T.region ?_
                refine LW.q rfl (Qt.move rfl) ?_
                refine LW.q rfl (Qt.eql rfl rfl) ?_
                refine LW.q rfl (Qt.move rfl) ?_
                refine LW.split (t := 58) rfl (fun h4 => ?_) (fun h4 => ?_)
                · skip
                  try replace h4 := of_decide_eq_true h4
                  refine LW.q rfl (Qt.fieldAddr (off := 3) (by kernel_rfl) rfl) ?_
                  refine LW.q rfl (Qt.load (by kernel_rfl) rfl rfl) ?_
                  refine LW.q rfl (Qt.move rfl) ?_
                  refine LW.q rfl (Qt.eql rfl rfl) ?_
                  refine LW.q rfl (Qt.pick rfl rfl) ?_
                  refine LW.q rfl (Qt.assign rfl) ?_
                  refine LW.done ?_
                  exact ⟨_, ⟨_, decide (v.fin = t), ⟨fun hq => .inr (.inl (of_decide_eq_true hq)), fun hq => ⟨hbg, of_decide_eq_false hq, hcf⟩⟩, (updS rfl (updS rfl (updS rfl (updS rfl (updS rfl rfl))))), rfl⟩, Sub.any⟩
                · skip
                  try replace h4 := of_decide_eq_false h4
                  refine LW.s rfl ?_
                  refine LW.s rfl ?_
                  refine LW.s rfl ?_
                  refine LW.s rfl ?_
                  refine LW.q rfl (Qt.pick rfl rfl) ?_
                  refine LW.q rfl (Qt.assign rfl) ?_
                  refine LW.done ?_
                  exact ⟨_, ⟨_, false, ⟨(fun hq => by cases hq), fun _ => ⟨hbg, fun hq => h4 ((hi.st.act v.fin).2 (by rw [hq]; exact hc)), hcf⟩⟩, (updS rfl (updS rfl (updS rfl (updS rfl (updS rfl rfl))))), rfl⟩, Sub.any⟩
          · skip
            try replace h1 := of_decide_eq_false h1
            have hbg : v.beg = t ∨ isCm h v.beg = true := by
              cases hq : isCm h v.beg with
              | true => exact .inr rfl
              | false =>
                cases hq2 : isAct h v.beg with
                | true => exact absurd ((hi.st.act v.beg).2 hq2) h1
                | false => exact absurd ((hi.st v.beg).trans (stN_lost.2 ⟨hq2, hq⟩)) h0
            refine LW.s rfl ?_
            refine LW.s rfl ?_
            refine LW.s rfl ?_
            refine LW.s rfl ?_
            refine LW.q rfl (Qt.pick rfl rfl) ?_
            refine LW.q rfl (Qt.assign rfl) ?_
            refine LW.done ?_
            refine T.condF rfl ?_
            refine T.seq ?_
            refine T.region ?_
            refine LW.q rfl (Qt.move rfl) ?_
            refine LW.q rfl (Qt.eql rfl rfl) ?_
            refine LW.q rfl (Qt.assign rfl) ?_
            refine LW.done ?_
            refine T.condP rfl (fun h3 => ?_) (fun h3 => ?_)
            · skip
              refine T.skip ?_
              exact ⟨_, ⟨_, decide ((lookL x.st v.fin).getD 0 = 2), ⟨fun _ => .inr (.inr ((stN_cm hi.r).1 (by rw [← hi.st v.fin]; exact h3))), fun hq => absurd h3 (of_decide_eq_false hq)⟩, (updS rfl (updS rfl (updS rfl (updS rfl (updS rfl rfl))))), rfl⟩, Sub.any⟩
            · skip
              have hcf : isCm h v.fin = false := by
                cases hq : isCm h v.fin with
                | false => rfl
                | true => exact absurd (by rw [show (lookL x.st v.fin).getD 0 = stN h v.fin from hi.st v.fin]; exact (stN_cm hi.r).2 hq) h3
              refine T.region ?_
              refine LW.q rfl (Qt.move rfl) ?_
              refine LW.q rfl (Qt.eql rfl rfl) ?_
              refine LW.q rfl (Qt.move rfl) ?_
              refine LW.split (t := 58) rfl (fun h4 => ?_) (fun h4 => ?_)
              · skip
                try replace h4 := of_decide_eq_true h4
                refine LW.q rfl (Qt.fieldAddr (off := 3) (by kernel_rfl) rfl) ?_
                refine LW.q rfl (Qt.load (by kernel_rfl) rfl rfl) ?_
                refine LW.q rfl (Qt.move rfl) ?_
                refine LW.q rfl (Qt.eql rfl rfl) ?_
                refine LW.q rfl (Qt.pick rfl rfl) ?_
                refine LW.q rfl (Qt.assign rfl) ?_
                refine LW.done ?_
                exact ⟨_, ⟨_, decide (v.fin = t), ⟨fun hq => .inr (.inl (of_decide_eq_true hq)), fun hq => ⟨hbg, of_decide_eq_false hq, hcf⟩⟩, (updS rfl (updS rfl (updS rfl (updS rfl (updS rfl rfl))))), rfl⟩, Sub.any⟩
              · skip
                try replace h4 := of_decide_eq_false h4
                refine LW.s rfl ?_
                refine LW.s rfl ?_
                refine LW.s rfl ?_
                refine LW.s rfl ?_
                refine LW.q rfl (Qt.pick rfl rfl) ?_
                refine LW.q rfl (Qt.assign rfl) ?_
                refine LW.done ?_
                exact ⟨_, ⟨_, false, ⟨(fun hq => by cases hq), fun _ => ⟨hbg, fun hq => h4 ((hi.st.act v.fin).2 (by rw [hq]; exact hc)), hcf⟩⟩, (updS rfl (updS rfl (updS rfl (updS rfl (updS rfl rfl))))), rfl⟩, Sub.any⟩
      rintro fz lz ⟨f0, bb, ⟨hb1, hb2⟩, rfl, rfl⟩
      try simp only [cA, nA]
      by_cases hbb : bb = true
      · skip
        subst hbb
        refine T.condT rfl ?_
        rw [end4 hc hv (hb1 rfl)]
        refine T.seq ?_
        refine T.region ?_
        refine LW.q rfl (Qt.assign rfl) ?_
        refine LW.done ?_
        refine T.ret ?_
        exact ⟨.inl rfl, _, _, res [_] rfl ⟨rvT rfl, trivial⟩, ⟨rfl, rfl⟩, hp_close [hpB g x.q x.pc h.cm.length x.cc h.last, stA x.q x.st, cmR x.pc h.cm.length x.cc h.cm, wlS b x.q s', plS b n logs count x.q s', dskA b s'.D] { x with s := s' } h hi2 rfl⟩
      · skip
        have hbb2 : bb = false := by simpa using hbb
        subst hbb2
        obtain ⟨hbg, h5, hcf⟩ := hb2 rfl
        refine T.condF rfl ?_
        refine T.seq ?_
        refine T.region ?_
        refine LW.q rfl (Qt.move rfl) ?_
        refine LW.q rfl (Qt.eql rfl rfl) ?_
        refine LW.q rfl (Qt.assign rfl) ?_
        refine LW.done ?_
        refine T.condP rfl (fun h4 => ?_) (fun h4 => ?_)
        · skip
          have haf := (hi.st.act v.fin).1 h4
          rw [end71 hc hv hbg h5 hcf haf]
          refine T.seq ?_
          refine T.region ?_
          refine LW.q rfl (Qt.assign rfl) ?_
          refine LW.done ?_
          refine T.ret ?_
          exact ⟨.inl rfl, _, _, res [_] rfl ⟨rvT rfl, trivial⟩, ⟨rfl, rfl⟩, hp_close [hpB g x.q x.pc h.cm.length x.cc h.last, stA x.q x.st, cmR x.pc h.cm.length x.cc h.cm, wlS b x.q s', plS b n logs count x.q s', dskA b s'.D] { x with s := s' } h hi2 rfl⟩
        · skip
          have haf : isAct h v.fin = false := by
            cases hq : isAct h v.fin with
            | false => rfl
            | true => exact absurd ((hi.st.act v.fin).2 hq) h4
          by_cases hf : (h.room : Int) < h.used + 20
          · skip
            rw [end3 hc hv hbg h5 hcf haf hf]
            refine T.skip ?_
            refine T.seq ?_
            refine T.region ?_
            refine LW.q rfl (Qt.move rfl) ?_
            refine LW.q rfl (Qt.move rfl) ?_
            refine LW.q rfl (Qt.fieldAddr0 (by kernel_rfl) rfl) ?_
            refine LW.q rfl (Qt.load (by kernel_rfl) rfl rfl) ?_
            refine LW.q rfl (Qt.fieldAddr (off := 1) (by kernel_rfl) rfl) ?_
            refine LW.q rfl (Qt.load (by kernel_rfl) rfl rfl) ?_
            refine LW.q rfl (Qt.build [(0, 1), (1, 1), (2, 1), (3, 1), (4, 1), (5, 1)] [.int .i64 0, .int .i64 0, .int .i64 0, .int .i64 0, .int .i64 0, .slice none 0 0] [_, _, _, _, _, _] [(0, _), (1, _), (2, _), (3, _)] (by kernel_rfl) (by unfold zeroB; kernel_rfl) rfl rfl) ?_
            refine LW.e rfl (Ef.call (Hp.writeFull B [] g b logs count n (K + 1) x.q x.pc h.cm.length x.cc h.last s' h.es (recsOf h.vs) hS (endE t page slot) none 0 hokE (RdV.nil _ 0) (by omega)) Tryz.func63 rfl rfl rfl ?_)
            rintro _ _ ⟨rfl, rfl⟩
            try simp only [cA, nA]
            refine LW.q rfl (Qt.assign rfl) ?_
            refine LW.done ?_
            refine T.ret ?_
            exact ⟨.inl rfl, _, _, res [_] rfl ⟨rvT rfl, trivial⟩, ⟨rfl, rfl⟩, hp_close [hpB g x.q x.pc h.cm.length x.cc h.last, stA x.q x.st, cmR x.pc h.cm.length x.cc h.cm, wlS b x.q s', plS b n logs count x.q s', dskA b s'.D] { x with s := s' } h hi2 rfl⟩
          · skip
            rw [end0 hc hv hbg h5 hcf haf hf]
            have hstep := hi.r.endStep (by omega) hlk hc hfi hvi hcf (by omega)
            have hrc := rc_end hi.r.ok hfi hvi (t := t)
            have hro3 := recs_ok (hi.r.ok.write hstep) v.page
            have hrq := congrFun hrc v.page
            simp only [rcSet, if_true] at hrq
            rw [← hrq] at hro3
            refine T.skip ?_
            refine T.seq ?_
            refine T.region ?_
            refine LW.q rfl (Qt.move rfl) ?_
            refine LW.q rfl (Qt.move rfl) ?_
            refine LW.q rfl (Qt.fieldAddr0 (by kernel_rfl) rfl) ?_
            refine LW.q rfl (Qt.load (by kernel_rfl) rfl rfl) ?_
            refine LW.q rfl (Qt.fieldAddr (off := 1) (by kernel_rfl) rfl) ?_
            refine LW.q rfl (Qt.load (by kernel_rfl) rfl rfl) ?_
            refine LW.q rfl (Qt.build [(0, 1), (1, 1), (2, 1), (3, 1), (4, 1), (5, 1)] [.int .i64 0, .int .i64 0, .int .i64 0, .int .i64 0, .int .i64 0, .slice none 0 0] [_, _, _, _, _, _] [(0, _), (1, _), (2, _), (3, _)] (by kernel_rfl) (by unfold zeroB; kernel_rfl) rfl rfl) ?_
            refine LW.e rfl (Ef.call (Hp.writeP B [] g b logs count n (K + 1) x.q x.pc h.cm.length x.cc h.last s' h.es (recsOf h.vs) hS (by omega) (endE t page slot) none 0 hokE (RdV.nil _ 0) (by omega) (by simp) v.page hvp.symm (by omega) _ hro3.1 hro3.2 (fun X hX gpg m => Hp.applyEnd B X (pV g) gpg (recsOf h.vs v.page) m (endE t page slot) none 0 hokE rfl v.slot hvs.symm (verB v) hrv (by rw [length_verB]; omega))) Tryz.func63 rfl rfl rfl ?_)
            rintro _ _ ⟨s3, hS3, rfl, rfl⟩
            try simp only [cA, nA]
            refine LW.q rfl (Qt.assign rfl) ?_
            refine LW.done ?_
            rw [hrc] at hS3
            have hi3 := hi.write hstep (by simp) (hi.r.act1 t (isAct_iff.1 hc)).2 hS3 (by omega)
            refine T.ret ?_
            exact ⟨.inl rfl, _, _, res [_] rfl ⟨rvT rfl, trivial⟩, ⟨rfl, rfl⟩, hp_close [hpB g x.q x.pc h.cm.length x.cc h.last, stA x.q x.st, cmR x.pc h.cm.length x.cc h.cm, wlS b x.q s3, plS b n logs count x.q s3, dskA b s3.D] { x with s := s3 } (writeR h (endE t page slot)) hi3 rfl⟩
    · skip
      have hi2 : HInv logs count n (K + 2) s' x.st h := ⟨hS.mono (by omega), hi.r, hi.st, hi.pages, hi.room, by have := hi.lastK; omega⟩
      obtain ⟨hn, rfl⟩ := hfd.resolve_left hfo
      have he : endR h t page slot = (h, 4) := by unfold endR; rw [if_pos hc, hn]
      rw [he]
      refine LW.q rfl (Qt.move rfl) ?_
      refine LW.q rfl (Qt.extr rfl rfl) ?_
      refine LW.q rfl (Qt.extr rfl rfl) ?_
      refine LW.e rfl (Ef.alloc [.int .i64 0, .int .i64 0, .int .i64 0, .int .i64 0, .slice none 0 0] (by unfold zeroB; kernel_rfl) ?_)
      intro g7
      refine LW.e0 rfl (Ef.store [_, _, _, _, _] (by kernel_rfl) rfl rfl rfl rfl (by simp) ?_)
      try simp only [splice, lC, lN, dS, cA, tS, tZ, dZ, nA, aN]
      refine LW.q rfl (Qt.assign rfl) ?_
      refine LW.done ?_
      refine T.seq ?_
      refine T.seq ?_
      refine T.draw 17 ([hpB g x.q x.pc h.cm.length x.cc h.last, stA x.q x.st, verB5 g7 0 0 0 0 (.slice none 0 0)]) (by kernel_rfl) (nB rfl) (by kernel_rfl) ?_
      refine RW.q 0 rfl rfl (by kernel_rfl) Sub.any (Qt.move rfl) ?_
      refine RW.q 1 rfl rfl (by kernel_rfl) Sub.any (Qt.nilCheck rfl) ?_
      refine RW.q 2 rfl rfl (by kernel_rfl) Sub.any (Qt.fieldAddr0 (by kernel_rfl) rfl) ?_
      refine RW.q 3 rfl rfl (by kernel_rfl) Sub.any (Qt.fieldAddr0 (by kernel_rfl) rfl) ?_
      refine RW.q 4 rfl rfl (by kernel_rfl) Sub.any (Qt.load (by kernel_rfl) rfl rfl) ?_
      refine RW.q 5 rfl rfl (by kernel_rfl) Sub.any (Qt.fieldAddr (off := 2) (by kernel_rfl) rfl) ?_
      refine RW.q 6 rfl rfl (by kernel_rfl) Sub.any (Qt.load (by kernel_rfl) rfl rfl) ?_
      refine RW.q 7 rfl rfl (by kernel_rfl) Sub.any (Qt.look1 Hp.okS rfl 0 rfl 0 rfl) ?_
      refine RW.q 8 rfl rfl (by kernel_rfl) Sub.any (Qt.move rfl) ?_
      refine RW.q 9 rfl rfl (by kernel_rfl) Sub.any (Qt.nilCheck rfl) ?_
      refine RW.q 10 rfl rfl (by kernel_rfl) Sub.any (Qt.fieldAddr0 (by kernel_rfl) rfl) ?_
      refine RW.q 11 rfl rfl (by kernel_rfl) Sub.any (Qt.fieldAddr0 (by kernel_rfl) rfl) ?_
      refine RW.q 12 rfl rfl (by kernel_rfl) Sub.any (Qt.load (by kernel_rfl) rfl rfl) ?_
      refine RW.q 13 rfl rfl (by kernel_rfl) Sub.any (Qt.fieldAddr (off := 3) (by kernel_rfl) rfl) ?_
      refine RW.q 14 rfl rfl (by kernel_rfl) Sub.any (Qt.load (by kernel_rfl) rfl rfl) ?_
      refine RW.q 15 rfl rfl (by kernel_rfl) Sub.any (Qt.look1 Hp.okS rfl 0 rfl 0 rfl) ?_
      refine RW.q 16 rfl rfl (by kernel_rfl) Sub.any (Qt.assign rfl) ?_
      refine RW.done (by rfl) ?_
      simp only [dS, dZ, dN]
      refine LW.q rfl (Qt.assign rfl) ?_
      refine LW.done ?_
      refine T.block ?_
      refine T.seq ?_
      refine T.seq ?_
      refine T.region ?_
      refine LW.q rfl (Qt.move rfl) ?_
      refine LW.q rfl (Qt.notB rfl) ?_
      refine LW.q rfl (Qt.assign rfl) ?_
      refine LW.done ?_
      refine T.condT rfl ?_
      refine T.skip ?_
      refine T.condT rfl ?_
      refine T.seq ?_
      refine T.region ?_
      refine LW.q rfl (Qt.assign rfl) ?_
      refine LW.done ?_
      refine T.ret ?_
      exact ⟨.inl rfl, _, _, res [_] rfl ⟨rvT rfl, trivial⟩, ⟨rfl, rfl⟩, hp_close [hpB g x.q x.pc h.cm.length x.cc h.last, stA x.q x.st, cmR x.pc h.cm.length x.cc h.cm, wlS b x.q s', plS b n logs count x.q s', dskA b s'.D] { x with s := s' } h hi2 rfl⟩
  · have he : endR h t page slot = (h, 70) := by unfold endR; rw [if_neg hc]
    rw [he]
    refine Fn.enter3 75 Tryz.func22 rfl rfl (nB rfl) (fun F => ?_)
    try simp only [cA, nA]
    refine T.seq ?_
    refine T.region ?_
    refine LW.e rfl (Ef.box [_, _] rfl rfl ?_)
    intro g5
    refine LW.q rfl (Qt.assign rfl) ?_
    refine LW.done ?_
    refine T.seq ?_
    refine T.seq ?_
    refine T.region ?_
    refine LW.q rfl (Qt.move rfl) ?_
    refine LW.q rfl (Qt.nilCheck rfl) ?_
    refine LW.q rfl (Qt.fieldAddr0 (by kernel_rfl) rfl) ?_
    refine LW.q rfl (Qt.fieldAddr0 (by kernel_rfl) rfl) ?_
    refine LW.q rfl (Qt.load (by kernel_rfl) rfl rfl) ?_
    refine LW.q rfl (Qt.move rfl) ?_
    refine LW.q rfl (Qt.look1 Hp.okS rfl t rfl 0 rfl) ?_
    refine LW.q rfl (Qt.neq rfl rfl) ?_
    refine LW.done ?_
    refine T.condPT rfl ((fun q => hc (ha.1 q))) ?_
    refine T.seq ?_
    refine T.region ?_
    refine LW.q rfl (Qt.assign rfl) ?_
    refine LW.done ?_
    refine T.ret ?_
    exact ⟨.inl rfl, _, _, res [_] rfl ⟨rvT rfl, trivial⟩, ⟨rfl, rfl⟩, hp_close [hpB g x.q x.pc h.cm.length x.cc h.last, stA x.q x.st, cmR x.pc h.cm.length x.cc h.cm, wlS b x.q x.s, plS b n logs count x.q x.s, dskA b x.s.D] { x with s := x.s } h hi1 rfl⟩
end Go.Proofs.YtiooeiapplnafaaGreatDoor

/- The package heap: All. Conditions: that the heap is in order; sizes. -/
namespace Go.Proofs.YtiooeiapplnafaaGreatDoor
open Go.RowKit
structure VerM where
  v : Ver
  p : Option Addr
  c : Nat
  raw : List UInt8
def VerM.Ok (x : VerM) : Prop := x.raw.length = 16 + x.v.data.length ∧ x.raw.drop 16 = x.v.data
abbrev vmC (x : VerM) : List Value := [.int .i64 x.v.page, .int .i64 x.v.slot, .int .i64 x.v.beg, .int .i64 x.v.fin, .slice (offA x.p x.c 16 1) x.v.data.length (x.c - 16)]
abbrev vmA (x : VerM) : Assn := rB (.slice x.p (16 + x.v.data.length) x.c) (16 + x.v.data.length) x.raw
def vmsA (L : List VerM) : Assn := sepL (L.map vmA)
abbrev vmR (p : Option Addr) (n c : Nat) (L : List VerM) : Assn := row (.slice p n c) 45 5 n (L.flatMap vmC)
def outM (g : Nat) (L : List VerM) : Assn := exA fun pc : Option Addr × Nat => sepL [blk g [.slice pc.1 L.length pc.2] 42, vmR pc.1 L.length pc.2 L, vmsA L]
theorem outM_ex {B : Base} {g : Nat} {L : List VerM} {l : List Assn} (w : World) (ho : Own B w (outM g L :: l)) : ∃ pc : Option Addr × Nat, Own B w (blk g [.slice pc.1 L.length pc.2] 42 :: vmR pc.1 L.length pc.2 L :: vmsA L :: l) := by
  obtain ⟨h, a, b, H⟩ := ho.has
  obtain ⟨pc, H1⟩ := Has.open_ex H
  exact ⟨pc, ho.os, ho.tape, ho.output, ho.ro, h, a, b, Has.open_sepL H1⟩
theorem outM_in {g n : Nat} {L : List VerM} {p : Option Addr} {c : Nat} (hn : n = L.length) {l : List Assn} {k : Piece} (H : Has (blk g [.slice p n c] 42 :: vmR p n c L :: vmsA L :: l) k) : Has (outM g L :: l) k := by
  subst hn
  exact Has.close_ex (p, c) (Has.close_sepL (l := [blk g [.slice p L.length c] 42, vmR p L.length c L, vmsA L]) H)
theorem vms_snoc {L : List VerM} {x : VerM} {l : List Assn} {k : Piece} (H : Has (vmA x :: vmsA L :: l) k) : Has (vmsA (L ++ [x]) :: l) k := by
  unfold vmsA
  rw [List.map_append]
  exact sep_pushS H
theorem vm_step {L : List VerM} {x : VerM} {p : Option Addr} {n c : Nat} {cs : List Value} (hx : cs = vmC x) {l : List Assn} {k : Piece} (H : Has (vmA x :: vmsA L :: row (.slice p n c) 45 5 n (L.flatMap vmC ++ cs) :: l) k) : Has (vmR p n c (L ++ [x]) :: vmsA (L ++ [x]) :: l) k := by
  have H1 := vms_snoc H
  subst hx
  unfold vmR
  rw [List.flatMap_append, show [x].flatMap vmC = vmC x by simp]
  exact Has.swap H1
theorem Hp.elemV : ElemOk Tryz.prog 42 45 5 56 := .mk' (.agg #[.int .i64 0, .int .i64 0, .int .i64 0, .int .i64 0, .slice none 0 0]) Tryz.underlying42 (by kernel_rfl) rfl (by omega)
theorem vis_none {h : HR} {v : Ver} (hb : stN h v.beg = 0) : visV h v = none := by unfold visV; rw [if_pos (stN_lost.1 hb)]
theorem vis_zero {h : HR} {v : Ver} (hb : ¬ stN h v.beg = 0) (hf : stN h v.fin = 0) : visV h v = some { v with fin := 0 } := by
  unfold visV; rw [if_neg (fun q => hb (stN_lost.2 q)), if_pos (stN_lost.1 hf)]
theorem vis_full {h : HR} {v : Ver} (hb : ¬ stN h v.beg = 0) (hf : ¬ stN h v.fin = 0) : visV h v = some v := by
  unfold visV; rw [if_neg (fun q => hb (stN_lost.2 q)), if_neg (fun q => hf (stN_lost.2 q))]
theorem fm_take {α β : Type} {f : α → Option β} {l : List α} {j : Nat} {a : α} (h : l[j]? = some a) : (l.take (j + 1)).filterMap f = (l.take j).filterMap f ++ (f a).toList := by
  obtain ⟨hj, rfl⟩ := List.getElem?_eq_some_iff.1 h
  rw [List.take_succ_eq_append_getElem hj, List.filterMap_append]
  cases hf : f l[j] <;> simp [hf]
set_option maxHeartbeats 8000000 in
set_option maxRecDepth 100000 in
theorem Hp.all1 (B : Base) (g gpg g4 g1 g3 : Nat) (x : HpQ) (pc : Option Addr) (cc : Nat) (st : List (Int × Int)) (h : HR) (q : Nat) (m : Int) (r : RInv h) (hst : StI st h) (hlk : h.last < 2 ^ 62) (L : List VerM) (hL : ∀ x ∈ L, x.Ok) (hLn : L.length < 2 ^ 20) (hq : q < 4096) :
  Fn Tryz.prog B 64 #[pV gpg, pV g4, pV g1, pV g3] (pgA gpg (recsOf h.vs q) m :: hpB g x pc h.cm.length cc h.last :: [blk g4 [.int .i64 q] 3, blk g1 [pV g] 25, stA x st, outM g3 L])
   (fun u l => u = .bool false ∧ ∃ L', (∀ x ∈ L', x.Ok) ∧ L'.map (·.v) = L.map (·.v) ++ (pageV h.vs q).filterMap (visV h) ∧ l = pgA gpg (recsOf h.vs q) m :: hpB g x pc h.cm.length cc h.last :: [blk g4 [.int .i64 q] 3, blk g1 [pV g] 25, stA x st, outM g3 L']) := by
 have hpl := pages_len r.ok q
 have hrl : (recsOf h.vs q).length = (pageV h.vs q).length := by simp [recsOf]
 refine Fn.enter4 52 Tryz.func64 rfl rfl (nB rfl) (fun F => ?_)
 try simp only [cA, nA]
 refine T.seq ?_
 refine T.region ?_
 refine LW.q rfl (Qt.assign rfl) ?_
 refine LW.done ?_
 refine T.seq ?_
 refine T.seq ?_
 refine T.region ?_
 refine LW.q rfl (Qt.move rfl) ?_
 refine LW.e rfl (Ef.call (Pg.count B gpg (recsOf h.vs q) m) Tryz.func62 rfl rfl rfl ?_)
 rintro _ _ ⟨rfl, rfl⟩
 try simp only [cA, nA]
 rw [hrl]
 refine LW.q rfl (Qt.move rfl) ?_
 refine LW.done ?_
 refine T.block ?_
 refine T.ex (l' := fun pc2 : Option Addr × Nat => blk g3 [.slice pc2.1 L.length pc2.2] 42 :: vmR pc2.1 L.length pc2.2 L :: vmsA L :: pgA gpg (recsOf h.vs q) m :: hpB g x pc h.cm.length cc h.last :: blk g4 [.int .i64 q] 3 :: blk g1 [pV g] 25 :: stA x st :: F) (fun w ho => outM_ex w (ho.map Sub.any)) (fun pc2 => ?_)
 obtain ⟨p0, c0⟩ := pc2
 refine T.loop (fun mz fz lz => ∃ (f0 : Fr) (j n2 : Nat) (L2 : List VerM) (p2 : Option Addr) (c2 : Nat), (j ≤ (pageV h.vs q).length ∧ n2 = L2.length ∧ n2 ≤ L.length + j ∧ (∀ x ∈ L2, x.Ok) ∧ L2.map (·.v) = L.map (·.v) ++ ((pageV h.vs q).take j).filterMap (visV h)) ∧ mz = (pageV h.vs q).length - j ∧ fz = (upd (upd (upd (upd (upd (upd f0 0 (pV gpg)) 1 (pV g4)) 2 (pV g1)) 3 (pV g3)) 11 (.int .i64 (pageV h.vs q).length)) 12 (.int .i64 j)) ∧ lz = blk g3 [.slice p2 n2 c2] 42 :: vmR p2 n2 c2 L2 :: vmsA L2 :: pgA gpg (recsOf h.vs q) m :: hpB g x pc h.cm.length cc h.last :: blk g4 [.int .i64 q] 3 :: blk g1 [pV g] 25 :: stA x st :: F) ?_ ?_
 · refine ⟨_, _, ⟨_, 0, L.length, L, p0, c0, ⟨Nat.zero_le _, rfl, by omega, hL, by simp⟩, rfl, (updS rfl (updS rfl (updS rfl (updS rfl (updS rfl (updS rfl rfl)))))), rfl⟩, Sub.any⟩
 ·
  rintro mz fz lz ⟨f0, j, n2, L2, p2, c2, ⟨hj, hn2, hnb, hok2, hmap⟩, hmz, rfl, rfl⟩
  subst mz
  try simp only [cA, nA]
  refine T.seq ?_
  refine T.region ?_
  refine LW.q rfl (Qt.lss rfl rfl) ?_
  refine LW.done ?_
  refine T.seq ?_
  refine T.condP rfl (fun hlt => ?_) (fun hlt => ?_)
  ·
   have hjl : j < (pageV h.vs q).length := by omega
   obtain ⟨v, hv⟩ : ∃ v, (pageV h.vs q)[j]? = some v := ⟨_, List.getElem?_eq_getElem hjl⟩
   obtain ⟨hvp, hvs⟩ := slots_page r.ok.slots q j v hv
   have hvo := ver_ok r (mem_of_filt (List.mem_of_getElem? hv))
   have hft := fm_take (f := visV h) hv
   refine T.skip ?_
   refine T.seq ?_
   refine T.block ?_
   refine T.seq ?_
   refine T.region ?_
   refine LW.q rfl (Qt.move rfl) ?_
   refine LW.q rfl (Qt.assign rfl) ?_
   refine LW.done ?_
   refine T.seq ?_
   refine T.region ?_
   refine LW.q rfl (Qt.move rfl) ?_
   refine LW.q rfl (Qt.move rfl) ?_
   refine LW.e rfl (Ef.call (Fn.own (Pg.getE B gpg (recsOf h.vs q) m j j (16 + v.data.length) (verB v) rfl (by unfold recsOf; rw [List.getElem?_map, hv]; rfl) (length_verB v))) Tryz.func65 rfl rfl rfl ?_)
   rintro _ _ ⟨⟨p1, c1, rfl, rfl⟩, w1, F1, ho1⟩
   try simp only [cA, nA]
   simp only [List.cons_append, List.nil_append] at ho1
   have hp1 := (ho1.slice_at (p := p1) (m := 16 + v.data.length) (c := c1)).2.1
   have hc1 := ho1.cap_at (p := p1) (m := 16 + v.data.length) (c := c1)
   clear ho1
   refine LW.q rfl (Qt.move rfl) ?_
   refine LW.q rfl (Qt.extr rfl rfl) ?_
   refine LW.q rfl (Qt.extr rfl rfl) ?_
   refine LW.q rfl (Qt.assign rfl) ?_
   refine LW.q rfl (Qt.assign rfl) ?_
   refine LW.done ?_
   refine T.seq ?_
   refine T.seq ?_
   refine T.region ?_
   refine LW.q rfl (Qt.move rfl) ?_
   refine LW.q rfl (Qt.len (e := 5) (sz := 1) (by kernel_rfl) rfl) ?_
   refine LW.q rfl (Qt.lss rfl rfl) ?_
   refine LW.done ?_
   refine T.condPF rfl (by omega) ?_
   refine T.skip ?_
   refine T.seq ?_
   refine T.region ?_
   refine LW.q rfl (Qt.load (by kernel_rfl) rfl rfl) ?_
   refine LW.q rfl (Qt.move rfl) ?_
   refine LW.q rfl (Qt.move rfl) ?_
   refine LW.e rfl (Ef.call (Hp.version B [rB (.slice p1 (16 + v.data.length) c1) (16 + v.data.length) (verB v)] q j p1 (16 + v.data.length) c1 v (RdV.rB (length_verB v) hp1) (length_verB v) hc1 ⟨by omega, by omega⟩ ⟨by omega, by omega⟩) Tryz.func66 rfl rfl rfl ?_)
   rintro _ _ ⟨rfl, rfl⟩
   try simp only [cA, nA]
   refine LW.e rfl (Ef.alloc [.int .i64 0, .int .i64 0, .int .i64 0, .int .i64 0, .slice none 0 0] (by unfold zeroB; kernel_rfl) ?_)
   intro g9
   refine LW.e0 rfl (Ef.store [_, _, _, _, _] (by kernel_rfl) rfl rfl rfl rfl (by simp) ?_)
   try simp only [splice, lC, lN, dS, cA, tS, tZ, dZ, nA, aN]
   refine LW.done ?_
   refine T.seq ?_
   refine T.seq ?_
   have hbeg : (lookL st v.beg).getD 0 = stN h v.beg := hst v.beg
   have hfin : (lookL st v.fin).getD 0 = stN h v.fin := hst v.fin
   refine T.draw 9 ([hpB g x pc h.cm.length cc h.last, stA x st, blk g1 [pV g] 25, verB5 g9 q j v.beg v.fin (.slice (offA p1 c1 16 1) v.data.length (c1 - 16))]) (by kernel_rfl) (nB rfl) (by kernel_rfl) ?_
   refine RW.q 0 rfl rfl (by kernel_rfl) Sub.any (Qt.load (by kernel_rfl) rfl rfl) ?_
   refine RW.q 1 rfl rfl (by kernel_rfl) Sub.any (Qt.nilCheck rfl) ?_
   refine RW.q 2 rfl rfl (by kernel_rfl) Sub.any (Qt.fieldAddr0 (by kernel_rfl) rfl) ?_
   refine RW.q 3 rfl rfl (by kernel_rfl) Sub.any (Qt.fieldAddr0 (by kernel_rfl) rfl) ?_
   refine RW.q 4 rfl rfl (by kernel_rfl) Sub.any (Qt.load (by kernel_rfl) rfl rfl) ?_
   refine RW.q 5 rfl rfl (by kernel_rfl) Sub.any (Qt.fieldAddr (off := 2) (by kernel_rfl) rfl) ?_
   refine RW.q 6 rfl rfl (by kernel_rfl) Sub.any (Qt.load (by kernel_rfl) rfl rfl) ?_
   refine RW.q 7 rfl rfl (by kernel_rfl) Sub.any (Qt.look1 Hp.okS rfl v.beg rfl 0 rfl) ?_
   refine RW.q 8 rfl rfl (by kernel_rfl) Sub.any (Qt.eql rfl rfl) ?_
   refine RW.done (by rfl) ?_
   simp only [dS, dZ, dN]
   refine LW.done ?_
   by_cases hb0 : stN h v.beg = 0
   ·
    refine T.condPT rfl ((by rw [hbeg]; exact hb0)) ?_
    refine T.exit ?_
    refine T.region ?_
    refine LW.q rfl (Qt.add rfl rfl (wr64 (by omega) (by omega))) ?_
    refine LW.q rfl (Qt.move rfl) ?_
    refine LW.done ?_
    refine ⟨_, ?_, _, ⟨_, j + 1, n2, L2, p2, c2, ⟨by omega, hn2, by omega, hok2, by rw [hft, vis_none hb0, hmap]; simp⟩, rfl, (updS rfl (updS rfl (updS rfl (updS rfl (updS rfl (updS rfl rfl)))))), rfl⟩, Sub.any⟩
    omega
   ·
    refine T.condPF rfl ((by rw [hbeg]; exact hb0)) ?_
    refine T.skip ?_
    refine T.seq ?_
    refine T.seq ?_
    refine T.draw 9 ([hpB g x pc h.cm.length cc h.last, stA x st, blk g1 [pV g] 25, verB5 g9 q j v.beg v.fin (.slice (offA p1 c1 16 1) v.data.length (c1 - 16))]) (by kernel_rfl) (nB rfl) (by kernel_rfl) ?_
    refine RW.q 0 rfl rfl (by kernel_rfl) Sub.any (Qt.load (by kernel_rfl) rfl rfl) ?_
    refine RW.q 1 rfl rfl (by kernel_rfl) Sub.any (Qt.nilCheck rfl) ?_
    refine RW.q 2 rfl rfl (by kernel_rfl) Sub.any (Qt.fieldAddr0 (by kernel_rfl) rfl) ?_
    refine RW.q 3 rfl rfl (by kernel_rfl) Sub.any (Qt.fieldAddr0 (by kernel_rfl) rfl) ?_
    refine RW.q 4 rfl rfl (by kernel_rfl) Sub.any (Qt.load (by kernel_rfl) rfl rfl) ?_
    refine RW.q 5 rfl rfl (by kernel_rfl) Sub.any (Qt.fieldAddr (off := 3) (by kernel_rfl) rfl) ?_
    refine RW.q 6 rfl rfl (by kernel_rfl) Sub.any (Qt.load (by kernel_rfl) rfl rfl) ?_
    refine RW.q 7 rfl rfl (by kernel_rfl) Sub.any (Qt.look1 Hp.okS rfl v.fin rfl 0 rfl) ?_
    refine RW.q 8 rfl rfl (by kernel_rfl) Sub.any (Qt.eql rfl rfl) ?_
    refine RW.done (by rfl) ?_
    simp only [dS, dZ, dN]
    refine LW.done ?_
    by_cases hf0 : stN h v.fin = 0
    ·
     refine T.condPT rfl ((by rw [hfin]; exact hf0)) ?_
     refine T.region ?_
     refine LW.q rfl (Qt.fieldAddr (off := 3) (by kernel_rfl) rfl) ?_
     refine LW.e0 rfl (Ef.store1 (by kernel_rfl) rfl rfl rfl (by first | (simp; done) | (simp; omega)) ?_)
     try simp only [List.set_cons_zero, List.set_cons_succ]
     refine LW.done ?_
     refine T.region ?_
     refine LW.q rfl (Qt.load (by kernel_rfl) rfl rfl) ?_
     refine LW.q rfl (Qt.loadAgg [_, _, _, _, _] (by kernel_rfl) rfl ⟨rfl, rfl, rfl, rfl, rfl, trivial⟩) ?_
     refine LW.e rfl (Ef.one [_, _, _, _, _] (e := 45) (sz := 5) (by kernel_rfl) ⟨.agg #[.int .i64 0, .int .i64 0, .int .i64 0, .int .i64 0, .slice none 0 0], by kernel_rfl, rfl⟩ rfl rfl rfl (by omega) (by omega) ?_)
     intro g49
     refine LW.e rfl (Ef.append Hp.elemV rfl rfl (SrcOf.blk (by kernel_rfl) rfl (by simp [Value.oneCell'])) (by unfold maxLen; omega) (by omega) ?_)
     rintro p3 c3 hp3
     try simp only [cA, nA]
     refine LW.e0 rfl (Ef.store1 (by kernel_rfl) rfl rfl rfl (by first | (simp; done) | (simp; omega)) ?_)
     try simp only [List.set_cons_zero, List.set_cons_succ]
     refine LW.done ?_
     refine T.region ?_
     refine LW.q rfl (Qt.add rfl rfl (wr64 (by omega) (by omega))) ?_
     refine LW.q rfl (Qt.move rfl) ?_
     refine LW.done ?_
     have hstep := fun k => vm_step (L := L2) (x := ⟨{ v with fin := 0 }, p1, c1, verB v⟩) (p := p3) (n := n2 + 1) (c := c3) (cs := [.int .i64 q, .int .i64 j, .int .i64 v.beg, .int .i64 0, .slice (offA p1 c1 16 1) v.data.length (c1 - 16)]) (by rw [← hvp, ← hvs]) (l := blk g3 [.slice p3 (n2 + 1) c3] 42 :: pgA gpg (recsOf h.vs q) m :: hpB g x pc h.cm.length cc h.last :: blk g4 [.int .i64 q] 3 :: blk g1 [pV g] 25 :: stA x st :: F) (k := k)
     refine ⟨_, ?_, _, ⟨_, j + 1, n2 + 1, L2 ++ [⟨{ v with fin := 0 }, p1, c1, verB v⟩], p3, c3, ⟨by omega, by simp [hn2], by omega, fun y hy => by rcases List.mem_append.1 hy with hy | hy; exact hok2 y hy; simp at hy; subst hy; exact ⟨length_verB v, ver_data v⟩, by rw [hft, vis_zero hb0 hf0, List.map_append, hmap]; simp⟩, rfl, (updS rfl (updS rfl (updS rfl (updS rfl (updS rfl (updS rfl rfl)))))), rfl⟩, (fun k K => Sub.any k (hstep k (Sub.any k K)))⟩
     omega
    ·
     refine T.condPF rfl ((by rw [hfin]; exact hf0)) ?_
     refine T.skip ?_
     refine T.region ?_
     refine LW.q rfl (Qt.load (by kernel_rfl) rfl rfl) ?_
     refine LW.q rfl (Qt.loadAgg [_, _, _, _, _] (by kernel_rfl) rfl ⟨rfl, rfl, rfl, rfl, rfl, trivial⟩) ?_
     refine LW.e rfl (Ef.one [_, _, _, _, _] (e := 45) (sz := 5) (by kernel_rfl) ⟨.agg #[.int .i64 0, .int .i64 0, .int .i64 0, .int .i64 0, .slice none 0 0], by kernel_rfl, rfl⟩ rfl rfl rfl (by omega) (by omega) ?_)
     intro g49
     refine LW.e rfl (Ef.append Hp.elemV rfl rfl (SrcOf.blk (by kernel_rfl) rfl (by simp [Value.oneCell'])) (by unfold maxLen; omega) (by omega) ?_)
     rintro p3 c3 hp3
     try simp only [cA, nA]
     refine LW.e0 rfl (Ef.store1 (by kernel_rfl) rfl rfl rfl (by first | (simp; done) | (simp; omega)) ?_)
     try simp only [List.set_cons_zero, List.set_cons_succ]
     refine LW.done ?_
     refine T.region ?_
     refine LW.q rfl (Qt.add rfl rfl (wr64 (by omega) (by omega))) ?_
     refine LW.q rfl (Qt.move rfl) ?_
     refine LW.done ?_
     have hstep := fun k => vm_step (L := L2) (x := ⟨v, p1, c1, verB v⟩) (p := p3) (n := n2 + 1) (c := c3) (cs := [.int .i64 q, .int .i64 j, .int .i64 v.beg, .int .i64 v.fin, .slice (offA p1 c1 16 1) v.data.length (c1 - 16)]) (by rw [← hvp, ← hvs]) (l := blk g3 [.slice p3 (n2 + 1) c3] 42 :: pgA gpg (recsOf h.vs q) m :: hpB g x pc h.cm.length cc h.last :: blk g4 [.int .i64 q] 3 :: blk g1 [pV g] 25 :: stA x st :: F) (k := k)
     refine ⟨_, ?_, _, ⟨_, j + 1, n2 + 1, L2 ++ [⟨v, p1, c1, verB v⟩], p3, c3, ⟨by omega, by simp [hn2], by omega, fun y hy => by rcases List.mem_append.1 hy with hy | hy; exact hok2 y hy; simp at hy; subst hy; exact ⟨length_verB v, ver_data v⟩, by rw [hft, vis_full hb0 hf0, List.map_append, hmap]; simp⟩, rfl, (updS rfl (updS rfl (updS rfl (updS rfl (updS rfl (updS rfl rfl)))))), rfl⟩, (fun k K => Sub.any k (hstep k (Sub.any k K)))⟩
     omega
  ·
   obtain rfl : j = (pageV h.vs q).length := by omega
   rw [List.take_length] at hmap
   refine T.exit ?_
   refine T.seq ?_
   refine T.region ?_
   refine LW.q rfl (Qt.assign rfl) ?_
   refine LW.done ?_
   refine T.ret ?_
   exact ⟨.inl rfl, _, _, res [_] rfl ⟨rvT rfl, trivial⟩, ⟨rfl, L2, hok2, hmap, rfl⟩, (fun k K => Sub.any k (outM_in hn2 (Sub.any (m := blk g3 [.slice p2 n2 c2] 42 :: vmR p2 n2 c2 L2 :: vmsA L2 :: pgA gpg (recsOf h.vs q) m :: hpB g x pc h.cm.length cc h.last :: blk g4 [.int .i64 q] 3 :: blk g1 [pV g] 25 :: stA x st :: F) k K)))⟩
end Go.Proofs.YtiooeiapplnafaaGreatDoor

/- The package heap: All over all pages. Conditions: that the heap is in order; sizes. -/
namespace Go.Proofs.YtiooeiapplnafaaGreatDoor
open Go.RowKit
theorem outM_start {g : Nat} {l : List Assn} {k : Piece} (K : Has (blk g [.slice none 0 0] 42 :: l) k) : Has (outM g [] :: l) k := outM_in (p := none) (c := 0) (n := 0) rfl (Has.cons_imp (fun _ K => rowNilP (sep_nilS K)) K)
theorem vis_len {h : HR} (r : RInv h) (q : Nat) : ((pageV h.vs q).filterMap (visV h)).length ≤ 15 := by
  have h1 := pages_len r.ok q
  have h2 : ((pageV h.vs q).filterMap (visV h)).length ≤ (pageV h.vs q).length := List.length_filterMap_le _ _
  omega
set_option maxHeartbeats 4000000 in
set_option maxRecDepth 100000 in
theorem Hp.all (B : Base) (g b logs count n K : Nat) (h : HR) (hK : K + count < 2 ^ 29) :
  Fn Tryz.prog B 19 #[pV g] [hpA g b logs count n K h] (fun u l => ∃ L p c, (∀ x ∈ L, VerM.Ok x) ∧ L.map (·.v) = allR h ∧ u = .slice p L.length c ∧ l = [vmR p L.length c L, vmsA L, hpA g b logs count n (K + count) h]) := by
 refine Fn.openHp fun x hi hp => ?_
 simp only [hpC, List.cons_append, List.nil_append]
 have hct := hi.cnt
 have hpg := hi.pages
 have hlk : h.last < 2 ^ 62 := by have := hi.lastK; omega
 refine Fn.enter1 21 Tryz.func19 rfl rfl (nB rfl) (fun F => ?_)
 try simp only [cA, nA]
 refine T.seq ?_
 refine T.region ?_
 refine LW.e rfl (Ef.box [_] rfl rfl ?_)
 intro g1
 refine LW.q rfl (Qt.assign rfl) ?_
 refine LW.done ?_
 refine T.seq ?_
 refine T.region ?_
 refine LW.e rfl (Ef.alloc [.slice none 0 0] (by unfold zeroB; kernel_rfl) ?_)
 intro g3
 refine LW.done ?_
 refine T.seq ?_
 refine T.seq ?_
 refine T.region ?_
 refine LW.q rfl (Qt.load (by kernel_rfl) rfl rfl) ?_
 refine LW.q rfl (Qt.nilCheck rfl) ?_
 refine LW.q rfl (Qt.fieldAddr (off := 4) (by kernel_rfl) rfl) ?_
 refine LW.q rfl (Qt.load (by kernel_rfl) rfl rfl) ?_
 refine LW.q rfl (Qt.nilCheck rfl) ?_
 refine LW.q rfl (Qt.fieldAddr0 (by kernel_rfl) rfl) ?_
 refine LW.e rfl (Ef.call (Bp.pages B x.q.gp b n logs count x.s.hand x.q.gl x.s.A) Tryz.func58 rfl rfl rfl ?_)
 rintro _ _ ⟨rfl, rfl⟩
 try simp only [cA, nA]
 refine LW.q rfl (Qt.move rfl) ?_
 refine LW.done ?_
 refine T.block ?_
 refine T.conv (l' := outM g3 [] :: blk g1 [pV g] 25 :: hpB g x.q x.pc h.cm.length x.cc h.last :: stA x.q x.st :: cmR x.pc h.cm.length x.cc h.cm :: wlS b x.q x.s :: plS b n logs count x.q x.s :: dskA b x.s.D :: F) (fun w ho => ho.map fun k K => outM_start (Sub.any k K)) ?_
 refine T.loop (fun mz fz lz => ∃ (f0 : Fr) (k : Nat) (s2 : Pl) (L : List VerM), (k ≤ count ∧ SInv logs count n (K + k) s2 h.es (recsOf h.vs) ∧ (∀ x ∈ L, VerM.Ok x) ∧ L.map (·.v) = (List.range k).flatMap (fun q => (pageV h.vs q).filterMap (visV h)) ∧ L.length ≤ 15 * k) ∧ mz = count - k ∧ fz = (upd (upd (upd (upd f0 1 (pV g1)) 3 (pV g3)) 11 (.int .i64 count)) 12 (.int .i64 k)) ∧ lz = outM g3 L :: blk g1 [pV g] 25 :: hpB g x.q x.pc h.cm.length x.cc h.last :: stA x.q x.st :: cmR x.pc h.cm.length x.cc h.cm :: wlS b x.q s2 :: plS b n logs count x.q s2 :: dskA b s2.D :: F) ?_ ?_
 · refine ⟨_, _, ⟨_, 0, x.s, [], ⟨Nat.zero_le _, hi.s, by simp, rfl, by simp⟩, rfl, (updS rfl (updS rfl (updS rfl (updS rfl rfl)))), rfl⟩, Sub.any⟩
 ·
  rintro mz fz lz ⟨f0, k, s2, L, ⟨hk, hs2, hok, hmap, hll⟩, hmz, rfl, rfl⟩
  subst mz
  try simp only [cA, nA]
  refine T.seq ?_
  refine T.region ?_
  refine LW.q rfl (Qt.lss rfl rfl) ?_
  refine LW.done ?_
  refine T.seq ?_
  refine T.condP rfl (fun hlt => ?_) (fun hlt => ?_)
  ·
   refine T.skip ?_
   refine T.seq ?_
   refine T.block ?_
   refine T.seq ?_
   refine T.region ?_
   refine LW.q rfl (Qt.move rfl) ?_
   refine LW.e rfl (Ef.alloc [.int .i64 0] (by unfold zeroB; kernel_rfl) ?_)
   intro g4
   refine LW.e0 rfl (Ef.store1 (by kernel_rfl) rfl rfl rfl (by first | (simp; done) | (simp; omega)) ?_)
   try simp only [List.set_cons_zero, List.set_cons_succ]
   refine LW.done ?_
   refine T.region ?_
   refine LW.q rfl (Qt.load (by kernel_rfl) rfl rfl) ?_
   refine LW.q rfl (Qt.load (by kernel_rfl) rfl rfl) ?_
   refine LW.q rfl (Qt.makeFunc [_, _, _] rfl) ?_
   refine LW.e rfl (Ef.call (Hp.with B g b n logs count (K + k) x.q x.pc h.cm.length x.cc h.last s2 h.es (recsOf h.vs) hs2 (by omega) k (by omega) k rfl 0 0 rfl (by omega) 64 Tryz.f64 [pV g4, pV g1, pV g3] [blk g4 [.int .i64 k] 3, blk g1 [pV g] 25, stA x.q x.st, outM g3 L] (fun bb r' X' => bb = false ∧ ∃ L', (∀ x ∈ L', VerM.Ok x) ∧ L'.map (·.v) = L.map (·.v) ++ (pageV h.vs k).filterMap (visV h) ∧ X' = [blk g4 [.int .i64 k] 3, blk g1 [pV g] 25, stA x.q x.st, outM g3 L']) Tryz.func64 rfl rfl (fun gpg m => (Hp.all1 B g gpg g4 g1 g3 x.q x.pc x.cc x.st h k m hi.r hi.st hlk L hok (by omega) (by omega)).mono (fun v l ⟨h1, L', h2, h3, h4⟩ => ⟨false, _, _, ⟨rfl, L', h2, h3, rfl⟩, h1, h4⟩)) (fun r' X' hh => by obtain ⟨h1, _⟩ := hh; cases h1)) Tryz.func59 rfl rfl rfl ?_)
   rintro _ _ ⟨bb, r', X', s', ⟨rfl, L', hok', hmap', rfl⟩, hS, rfl, rfl⟩
   try simp only [cA, nA]
   have hS2 : SInv logs count n (K + k + 1) s' h.es (recsOf h.vs) := by simpa [rcSet] using hS
   have hvl := vis_len hi.r k
   have hl' := congrArg List.length hmap'
   simp only [List.length_map, List.length_append] at hl'
   refine LW.done ?_
   refine T.region ?_
   refine LW.q rfl (Qt.add rfl rfl (wr64 (by omega) (by omega))) ?_
   refine LW.q rfl (Qt.move rfl) ?_
   refine LW.done ?_
   refine ⟨_, ?_, _, ⟨_, k + 1, s', L', ⟨by omega, hS2, hok', by rw [hmap', hmap, List.range_succ, List.flatMap_append]; simp, by omega⟩, rfl, (updS rfl (updS rfl (updS rfl (updS rfl rfl)))), rfl⟩, Sub.any⟩
   omega
  ·
   obtain rfl : k = count := by omega
   refine T.ex (l' := fun pc2 : Option Addr × Nat => blk g3 [.slice pc2.1 L.length pc2.2] 42 :: vmR pc2.1 L.length pc2.2 L :: vmsA L :: blk g1 [pV g] 25 :: hpB g x.q x.pc h.cm.length x.cc h.last :: stA x.q x.st :: cmR x.pc h.cm.length x.cc h.cm :: wlS b x.q s2 :: plS b n logs k x.q s2 :: dskA b s2.D :: F) (fun w ho => outM_ex w (ho.map Sub.any)) (fun pc2 => ?_)
   obtain ⟨p0, c0⟩ := pc2
   have hi2 : HInv logs k n (K + k) s2 x.st h := ⟨hs2, hi.r, hi.st, hi.pages, hi.room, by have := hi.lastK; omega⟩
   refine T.exit ?_
   refine T.seq ?_
   refine T.region ?_
   refine LW.q rfl (Qt.load (by kernel_rfl) rfl rfl) ?_
   refine LW.q rfl (Qt.assign rfl) ?_
   refine LW.done ?_
   refine T.ret ?_
   exact ⟨.inl rfl, _, _, res [_] rfl ⟨rvT rfl, trivial⟩, ⟨L, p0, c0, hok, by rw [hmap]; unfold allR; rw [hpg], rfl, rfl⟩, (fun p K1 => Sub.any p (hp_close (m := hpA g b logs k n (K + k) h :: vmR p0 L.length c0 L :: vmsA L :: F) [hpB g x.q x.pc h.cm.length x.cc h.last, stA x.q x.st, cmR x.pc h.cm.length x.cc h.cm, wlS b x.q s2, plS b n logs k x.q s2, dskA b s2.D] { x with s := s2 } h hi2 rfl p K1))⟩
end Go.Proofs.YtiooeiapplnafaaGreatDoor

/- A heap as plain lists: whether ends, versions and a commit find room, counted page by page. Conditions: none. -/
namespace Go.Proofs.YtiooeiapplnafaaGreatDoor
open Go.RowKit
def fitsP : List Int → Int → List Int → Bool
  | _, left, [] => decide (0 ≤ left)
  | rooms, left, s :: l => if s < 0 ∨ 184 < s then false else match rooms.findIdx? (fun r => decide (s + 17 ≤ r)) with
    | none => false
    | some i => fitsP (rooms.modify i (· - (s + 17))) (left - (20 + s)) l
theorem fitsP_neg : ∀ (l : List Int) (rooms : List Int) (left : Int), left < 0 → fitsP rooms left l = false
  | [], _, left, h => by simp [fitsP]; omega
  | s :: l, rooms, left, h => by
    unfold fitsP
    split
    · rfl
    · split
      · rfl
      · exact fitsP_neg l _ _ (by omega)
def roomsL (h : HR) : List Int := (List.range h.pages).map fun q => 256 - (usedP h.vs q : Int)
theorem rooms_find (h : HR) (s : Int) (h0 : 0 ≤ s) : (roomsL h).findIdx? (fun r => decide (s + 17 ≤ r)) = roomyP h s.toNat := by
  cases hr : roomyP h s.toNat with
  | none =>
    rw [List.findIdx?_eq_none_iff]
    intro x hx
    obtain ⟨q, hq, rfl⟩ := List.mem_map.1 hx
    have := roomy_none hr q (by simpa using hq)
    simp; omega
  | some q =>
    obtain ⟨a, b, c⟩ := roomy_some hr
    rw [List.findIdx?_eq_some_iff_getElem]
    refine ⟨by simp [roomsL, a], ?_, fun j hj => ?_⟩
    · simp [roomsL]; omega
    · have := c j hj
      simp [roomsL]; omega
theorem rooms_add {h : HR} {e : En} {q : Nat} {n : Nat} (hk : e.kind = 1) (hp : e.page = q) (hd : e.data.length = n) : roomsL (writeR h e) = (roomsL h).modify q (· - ((n : Int) + 17)) := by
  have hv : (writeR h e).vs = h.vs ++ [⟨e.page.toNat, e.slot.toNat, e.txn, 0, e.data⟩] := by simp [writeR, hk]
  apply List.ext_getElem?
  intro j
  rw [List.getElem?_modify]
  unfold roomsL
  show (List.map _ (List.range h.pages))[j]? = _
  simp only [List.getElem?_map, hv]
  by_cases hj : j < h.pages
  · rw [List.getElem?_range hj]
    simp only [Option.map_some]
    unfold usedP
    rw [pageV_append, usedV_append]
    by_cases e1 : q = j
    · subst e1
      have : pageV [(⟨e.page.toNat, e.slot.toNat, e.txn, 0, e.data⟩ : Ver)] q = [⟨e.page.toNat, e.slot.toNat, e.txn, 0, e.data⟩] := by simp [pageV, hp]
      rw [this]
      simp [usedV, hd]; omega
    · have : pageV [(⟨e.page.toNat, e.slot.toNat, e.txn, 0, e.data⟩ : Ver)] j = [] := by simp [pageV, hp, e1]
      rw [this]
      simp [usedV, e1]
  · rw [List.getElem?_eq_none (by simpa using hj)]
    simp
theorem fitsA_eq : ∀ (l : List Int) (h : HR) (t : Int), isAct h t = true → ((fitsA h t l).2 && decide ((fitsA h t l).1.used ≤ ((fitsA h t l).1.room : Int))) = fitsP (roomsL h) (h.room - h.used) l
  | [], h, t, ht => by
    simp only [fitsA, fitsP, Bool.true_and]
    exact decide_eq_decide.2 (by omega)
  | s :: l, h, t, ht => by
    unfold fitsA fitsP
    by_cases hs : s < 0 ∨ 184 < s
    · rw [if_pos hs, if_pos hs]; rfl
    · rw [if_neg hs, if_neg hs, rooms_find h s (by omega)]
      have hl : (List.replicate s.toNat (0 : UInt8)).length = s.toNat := List.length_replicate
      have h184 : ¬ 184 < s.toNat := by omega
      cases hr : roomyP h s.toNat with
      | none =>
        have e : addR' h t (List.replicate s.toNat 0) = (h, 0, 0, 3) := by unfold addR'; rw [if_pos ht, hl, if_neg h184, hr]
        dsimp only
        rw [e]
        simp
      | some q =>
        dsimp only
        by_cases hf : (h.room : Int) < h.used + 20 + (s.toNat : Int)
        · have e : addR' h t (List.replicate s.toNat 0) = (h, 0, 0, 3) := by unfold addR'; rw [if_pos ht, hl, if_neg h184, hr]; dsimp only; rw [if_pos hf]
          rw [e]
          have hneg : (h.room : Int) - h.used - (20 + s) < 0 := by omega
          rw [fitsP_neg _ _ _ hneg]
          simp
        · have e : addR' h t (List.replicate s.toNat 0) = (writeR h (addE h t (List.replicate s.toNat 0) q), (q : Int), ((pageV h.vs q).length : Int), 0) := by unfold addR'; rw [if_pos ht, hl, if_neg h184, hr]; dsimp only; rw [if_neg hf]
          rw [e]
          simp only [ne_eq, not_true_eq_false, if_false]
          have hw : isAct (writeR h (addE h t (List.replicate s.toNat 0) q)) t = true := ht
          rw [fitsA_eq l _ t hw, rooms_add (h := h) (e := addE h t (List.replicate s.toNat 0) q) (q := q) (n := s.toNat) rfl rfl hl]
          have hsz : (enSz (addE h t (List.replicate s.toNat 0) q) : Int) = 20 + s := by rw [enSz_eq]; simp; omega
          have hu : (writeR h (addE h t (List.replicate s.toNat 0) q)).used = h.used + (20 + s) := by show h.used + _ = _; rw [hsz]
          rw [hu]
          show fitsP _ ((h.room : Int) - _) l = _
          congr 1
          · congr 1; funext x; omega
          · omega
theorem fits_eq {h : HR} (ends : Int) (sizes : List Int) (hu : 0 ≤ h.used) : fitsR h ends sizes = (!(decide (ends < 0) || decide ((h.room : Int) - h.used - 25 < ends)) && fitsP (roomsL h) ((h.room : Int) - h.used - 25 - 20 * ends) sizes) := by
  unfold fitsR
  by_cases h1 : ends < 0 ∨ (h.room : Int) < ends
  · rw [if_pos h1]
    rcases h1 with h1 | h1
    · simp [h1]
    · have : ((h.room : Int) - h.used - 25 < ends) := by omega
      simp [this]
  · rw [if_neg h1]
    dsimp only
    rw [fitsA_eq]
    · show fitsP (roomsL h) ((h.room : Int) - (h.used + (20 * ends + 25))) sizes = _
      by_cases h2 : (h.room : Int) - h.used - 25 < ends
      · rw [fitsP_neg _ _ _ (by omega)]
        simp [h2]
      · have h3 : ¬ ends < 0 := by omega
        simp only [h2, h3, decide_false, Bool.or_self, Bool.not_false, Bool.true_and]
        congr 1; omega
    · show isAct _ _ = true
      unfold isAct beginR
      simp [List.contains_iff_mem]
end Go.Proofs.YtiooeiapplnafaaGreatDoor

/- The package heap: Fits. Conditions: that the heap is in order; sizes. -/
namespace Go.Proofs.YtiooeiapplnafaaGreatDoor
open Go.RowKit
abbrev zR (p : Option Addr) (n c : Nat) (l : List Int) : Assn := row (.slice p n c) 3 1 n (l.map zV)
theorem Hp.elemI : ElemOk Tryz.prog 55 3 1 8 := .mk' (.int .i64 0) Tryz.underlying55 (by kernel_rfl) rfl (by omega)
theorem made_iz (n : Nat) : (madeCells (Value.int .i64 0).cells (n * 1)).toList = (List.replicate n (0 : Int)).map zV := by
  rw [List.map_replicate, show (Value.int .i64 0).cells = (List.replicate 1 (Value.int .i64 0)).toArray from rfl, made_replicate _ 1 _ (by omega), Nat.mul_one]
theorem Hp.fits2 (B : Base) (g11 : Nat) (s room : Int) (hs : 0 ≤ s ∧ s ≤ 184) : Fn Tryz.prog B 73 #[.int .i64 room, pV g11] [blk g11 [.int .i64 s] 3] (fun u l => u = .bool (decide (s + 17 ≤ room)) ∧ l = [blk g11 [.int .i64 s] 3]) := by
  refine Fn.enter2 8 Tryz.func73 rfl rfl (nB rfl) (fun F => ?_)
  try simp only [cA, nA]
  refine T.seq ?_
  refine T.region ?_
  refine LW.q rfl (Qt.assign rfl) ?_
  refine LW.done ?_
  refine T.seq ?_
  refine T.region ?_
  refine LW.q rfl (Qt.move rfl) ?_
  refine LW.q rfl (Qt.load (by kernel_rfl) rfl rfl) ?_
  refine LW.q rfl (Qt.add rfl rfl (wr64 (by omega) (by omega))) ?_
  refine LW.q rfl (Qt.geq rfl rfl) ?_
  refine LW.q rfl (Qt.assign rfl) ?_
  refine LW.done ?_
  refine T.ret ?_
  exact ⟨.inl rfl, _, _, res [_] rfl ⟨rvT rfl, trivial⟩, ⟨rfl, rfl⟩, Sub.any⟩
def idxI (o : Option Nat) : Int := match o with
  | none => -1
  | some i => i
set_option maxHeartbeats 1000000 in
set_option maxRecDepth 100000 in
theorem Hp.index (B : Base) (gr nR c : Nat) (R : List Int) (hR : R.length = nR) (hn : nR < 2 ^ 40) (g11 : Nat) (s : Int) (hs : 0 ≤ s ∧ s ≤ 184) :
  Fn Tryz.prog B 72 #[.slice (some ⟨gr, 0, none⟩) nR c, .func (.func 73) #[] #[pV g11]] [zR (some ⟨gr, 0, none⟩) nR c R, blk g11 [.int .i64 s] 3]
   (fun u l => u = .int .i64 (idxI (R.findIdx? fun r => decide (s + 17 ≤ r))) ∧ l = [zR (some ⟨gr, 0, none⟩) nR c R, blk g11 [.int .i64 s] 3]) := by
 refine Fn.enter2 19 Tryz.func72 rfl rfl (nB rfl) (fun F => ?_)
 try simp only [cA, nA]
 refine T.seq ?_
 refine T.region ?_
 refine LW.q rfl (Qt.assign rfl) ?_
 refine LW.done ?_
 refine T.seq ?_
 refine T.seq ?_
 refine T.region ?_
 refine LW.q rfl (Qt.move rfl) ?_
 refine LW.q rfl (Qt.len (e := 3) (sz := 1) (by kernel_rfl) rfl) ?_
 refine LW.q rfl (Qt.move rfl) ?_
 refine LW.done ?_
 refine T.block ?_
 refine T.loop (fun mz fz lz => ∃ (f0 : Fr) (k : Nat), (k ≤ nR ∧ ∀ (j : Nat) (hj : j < R.length), j < k → ¬ s + 17 ≤ R[j]) ∧ mz = nR - k ∧ fz = (upd (upd (upd (upd f0 0 (.slice (some ⟨gr, 0, none⟩) nR c)) 1 (.func (.func 73) #[] #[pV g11])) 7 (.int .i64 nR)) 8 (.int .i64 k)) ∧ lz = zR (some ⟨gr, 0, none⟩) nR c R :: blk g11 [.int .i64 s] 3 :: F) ?_ ?_
 · refine ⟨_, _, ⟨_, 0, ⟨Nat.zero_le _, fun j hj h => by omega⟩, rfl, (updS rfl (updS rfl (updS rfl (updS rfl rfl)))), rfl⟩, Sub.any⟩
 ·
  rintro mz fz lz ⟨f0, k, ⟨hk, hno⟩, hmz, rfl, rfl⟩
  subst mz
  try simp only [cA, nA]
  refine T.seq ?_
  refine T.region ?_
  refine LW.q rfl (Qt.lss rfl rfl) ?_
  refine LW.done ?_
  refine T.seq ?_
  refine T.condP rfl (fun hlt => ?_) (fun hlt => ?_)
  ·
   refine T.skip ?_
   refine T.seq ?_
   refine T.block ?_
   refine T.seq ?_
   refine T.region ?_
   refine LW.q rfl (Qt.move rfl) ?_
   refine LW.q rfl (Qt.assign rfl) ?_
   refine LW.done ?_
   refine T.seq ?_
   refine T.region ?_
   refine LW.q rfl (Qt.move rfl) ?_
   refine LW.q rfl (Qt.move rfl) ?_
   refine LW.q rfl (Qt.move rfl) ?_
   refine LW.q rfl (Qt.index _ (e := 3) (sz := 1) (by kernel_rfl) rfl rfl rfl (by omega)) ?_
   refine LW.q rfl (Qt.load (by kernel_rfl) rfl (map_at _ _ _ (by omega))) ?_
   refine LW.e rfl (Ef.callC [zV (R[k]'(by omega))] [pV g11] (Hp.fits2 B g11 s (R[k]'(by omega)) hs) Tryz.func73 rfl rfl rfl rfl rfl ?_)
   rintro _ _ ⟨rfl, rfl⟩
   try simp only [cA, nA]
   refine LW.done ?_
   refine T.condP rfl (fun hf => ?_) (fun hf => ?_)
   ·
    have e : (R.findIdx? fun r => decide (s + 17 ≤ r)) = some k := by
     rw [List.findIdx?_eq_some_iff_getElem]
     exact ⟨by omega, by simpa using hf, fun j hj => by simpa using hno j (by omega) hj⟩
    rw [e]
    refine T.seq ?_
    refine T.region ?_
    refine LW.q rfl (Qt.move rfl) ?_
    refine LW.q rfl (Qt.assign rfl) ?_
    refine LW.done ?_
    refine T.ret ?_
    exact ⟨.inl rfl, _, _, res [_] rfl ⟨rvT rfl, trivial⟩, ⟨rfl, rfl⟩, Sub.any⟩
   ·
    refine T.skip ?_
    refine T.region ?_
    refine LW.q rfl (Qt.add rfl rfl (wr64 (by omega) (by omega))) ?_
    refine LW.q rfl (Qt.move rfl) ?_
    refine LW.done ?_
    refine ⟨_, ?_, _, ⟨_, k + 1, ⟨by omega, fun j hj h => by rcases Nat.lt_or_eq_of_le (Nat.lt_succ_iff.1 h) with h1 | h1; exact hno j hj h1; subst h1; exact hf⟩, rfl, (updS rfl (updS rfl (updS rfl (updS rfl rfl)))), rfl⟩, Sub.any⟩
    omega
  ·
   have e : (R.findIdx? fun r => decide (s + 17 ≤ r)) = none := by
    rw [List.findIdx?_eq_none_iff]
    intro x hx
    obtain ⟨j, hj, rfl⟩ := List.getElem_of_mem hx
    simpa using hno j hj (by omega)
   rw [e]
   refine T.exit ?_
   refine T.seq ?_
   refine T.region ?_
   refine LW.q rfl (Qt.assign rfl) ?_
   refine LW.done ?_
   refine T.ret ?_
   exact ⟨.inl rfl, _, _, res [_] rfl ⟨rvT rfl, trivial⟩, ⟨rfl, rfl⟩, Sub.any⟩
set_option maxHeartbeats 1000000 in
theorem Hp.fits1 (B : Base) (A : Assn) (gpg g8 gr nR c g9 : Nat) (recs : List (List UInt8)) (m : Int) (R : List Int) (hR : R.length = nR) (hn : nR < 2 ^ 40) (k : Nat) (hk : k < nR) :
    Fn Tryz.prog B 70 #[pV gpg, pV g8, pV g9] (pgA gpg recs m :: A :: [blk g8 [.slice (some ⟨gr, 0, none⟩) nR c] 55, blk g9 [.int .i64 k] 3, zR (some ⟨gr, 0, none⟩) nR c R])
      (fun u l => u = .bool false ∧ l = pgA gpg recs m :: A :: [blk g8 [.slice (some ⟨gr, 0, none⟩) nR c] 55, blk g9 [.int .i64 k] 3, zR (some ⟨gr, 0, none⟩) nR c (R.set k (243 - (usedR recs : Int)))]) := by
  refine Fn.enter3 10 Tryz.func70 rfl rfl (nB rfl) (fun F => ?_)
  try simp only [cA, nA]
  refine T.seq ?_
  refine T.region ?_
  refine LW.q rfl (Qt.assign rfl) ?_
  refine LW.done ?_
  refine T.seq ?_
  refine T.draw 4 ([blk g8 [.slice (some ⟨gr, 0, none⟩) nR c] 55, blk g9 [.int .i64 k] 3]) (by kernel_rfl) (nB rfl) (by kernel_rfl) ?_
  refine RW.q 0 rfl rfl (by kernel_rfl) Sub.any (Qt.load (by kernel_rfl) rfl rfl) ?_
  refine RW.q 1 rfl rfl (by kernel_rfl) Sub.any (Qt.load (by kernel_rfl) rfl rfl) ?_
  refine RW.q 2 rfl rfl (by kernel_rfl) Sub.any (Qt.move rfl) ?_
  refine RW.one 3 (by kernel_rfl) ?_
  refine RO.eS rfl rfl (Ef.call (Pg.left B gpg recs m) Tryz.func71 rfl rfl rfl ?_)
  rintro _ _ ⟨rfl, rfl⟩
  try simp only [cA, nA]
  refine ⟨Sub.any, ?_⟩
  refine RW.done (by rfl) ?_
  simp only [dS, dZ, dN]
  refine LW.q rfl (Qt.index _ (e := 3) (sz := 1) (by kernel_rfl) rfl rfl rfl (by omega)) ?_
  refine LW.e0 rfl (Ef.store1 (by kernel_rfl) rfl rfl rfl (by first | (simp; done) | (simp; omega)) ?_)
  try simp only [List.set_cons_zero, List.set_cons_succ]
  refine LW.done ?_
  refine T.seq ?_
  refine T.region ?_
  refine LW.q rfl (Qt.assign rfl) ?_
  refine LW.done ?_
  rw [set_map zV]
  refine T.ret ?_
  exact ⟨.inl rfl, _, _, res [_] rfl ⟨rvT rfl, trivial⟩, ⟨rfl, rfl⟩, Sub.any⟩
end Go.Proofs.YtiooeiapplnafaaGreatDoor

/- The package heap: Fits as a whole. Conditions: that the heap is in order; that what is handed in can be read; sizes. -/
namespace Go.Proofs.YtiooeiapplnafaaGreatDoor
open Go.RowKit
theorem mod_set {R : List Int} {i : Nat} {d x : Int} (h : R[i]? = some x) : R.modify i (· - d) = R.set i (x - d) := modify_set h _
theorem room_at (h : HR) (q : Nat) : 243 - (usedR (recsOf h.vs q) : Int) = 256 - (usedP h.vs q : Int) := by rw [used_recs]; unfold usedP; omega
theorem range_zero {f : Nat → Int} {k n : Nat} (hk : k < n) : (((List.range k).map f) ++ List.replicate (n - k) 0).set k (f k) = ((List.range (k + 1)).map f) ++ List.replicate (n - (k + 1)) 0 := by
  rw [List.set_append_right _ _ (by simp)]
  simp only [List.length_map, List.length_range, Nat.sub_self]
  rw [show n - k = (n - (k + 1)) + 1 by omega, List.replicate_succ, List.set_cons_zero, List.range_succ, List.map_append]
  simp
set_option maxHeartbeats 8000000 in
set_option maxRecDepth 100000 in
theorem Hp.fits (B : Base) (S : List Assn) (g b logs count n K : Nat) (h : HR) (hK : K + count < 2 ^ 29) (h1c : 1 ≤ count) (ends : Int) (he : -(2 ^ 63) ≤ ends ∧ ends < 2 ^ 63) (a : Option Addr) (ns c : Nat) (sizes : List Int) (hv : RdV B S (.slice a ns c) (sizes.map zV)) (hns : sizes.length = ns) (hns2 : ns < 2 ^ 40) :
  Fn Tryz.prog B 24 #[pV g, .int .i64 ends, .slice a ns c] (hpA g b logs count n K h :: S) (fun u l => u = .bool (fitsR h ends sizes) ∧ l = hpA g b logs count n (K + count) h :: S) := by
 refine Fn.openHp fun x hi hp => ?_
 simp only [hpC, List.cons_append, List.nil_append]
 have hct := hi.cnt
 have hpg := hi.pages
 have hu := hi.used
 have hr := hi.room
 have hwst := hi.s.inv.wst
 obtain ⟨l1, l2, l3⟩ := hi.s.log.first
 have hfe := fits_eq (h := h) ends sizes (by omega)
 have hlf : (h.room : Int) - h.used - 25 = ((x.s.W.count : Int) * 256 - x.s.W.st.length) - 25 := by rw [l2]; omega
 rw [hlf] at hfe
 have hi2 : HInv logs count n (K + count) x.s x.st h := hi.mono (by omega)
 obtain ⟨lf, hlfx⟩ : ∃ lf, ((x.s.W.count : Int) * 256 - x.s.W.st.length) - 25 = lf := ⟨_, rfl⟩
 rw [hlfx] at hfe
 have hlfb : -2000000 < lf ∧ lf < 2000000 := by rw [l2] at hlfx; omega
 rw [hfe]
 refine Fn.enter3 80 Tryz.func24 rfl rfl (nB rfl) (fun F => ?_)
 try simp only [cA, nA]
 refine T.seq ?_
 refine T.region ?_
 refine LW.q rfl (Qt.assign rfl) ?_
 refine LW.done ?_
 refine T.seq ?_
 refine T.region ?_
 refine LW.q rfl (Qt.move rfl) ?_
 refine LW.q rfl (Qt.nilCheck rfl) ?_
 refine LW.q rfl (Qt.fieldAddr (off := 3) (by kernel_rfl) rfl) ?_
 refine LW.q rfl (Qt.load (by kernel_rfl) rfl rfl) ?_
 refine LW.e rfl (Ef.call (Wl.left B x.q.gl b x.s.W (by omega) (by omega)) Tryz.func69 rfl rfl rfl ?_)
 rintro _ _ ⟨rfl, rfl⟩
 try simp only [cA, nA]
 refine LW.q rfl (Qt.sub (r := lf) rfl rfl (by rw [wr64 (by omega) (by omega)]; exact hlfx)) ?_
 refine LW.q rfl (Qt.assign rfl) ?_
 refine LW.done ?_
 refine T.seq ?_
 refine T.seq ?_
 refine T.region ?_
 refine LW.q rfl (Qt.move rfl) ?_
 refine LW.q rfl (Qt.lss rfl rfl) ?_
 refine LW.q rfl (Qt.move rfl) ?_
 by_cases hb : ends < 0 ∨ lf < ends
 ·
  rw [show (decide (ends < 0) || decide (lf < ends)) = true by simpa using hb]
  by_cases h0 : ends < 0
  ·
   refine LW.gT (t := 21) rfl (decide_eq_true (by omega)) ?_
   refine LW.s rfl ?_
   refine LW.s rfl ?_
   refine LW.s rfl ?_
   refine LW.q rfl (Qt.pick rfl rfl) ?_
   refine LW.done ?_
   refine T.condT rfl ?_
   refine T.seq ?_
   refine T.region ?_
   refine LW.q rfl (Qt.assign rfl) ?_
   refine LW.done ?_
   refine T.ret ?_
   exact ⟨.inl rfl, _, _, res [_] rfl ⟨rvT rfl, trivial⟩, ⟨rfl, rfl⟩, hp_close [hpB g x.q x.pc h.cm.length x.cc h.last, stA x.q x.st, cmR x.pc h.cm.length x.cc h.cm, wlS b x.q x.s, plS b n logs count x.q x.s, dskA b x.s.D] x h hi2 rfl⟩
  ·
   refine LW.gF (t := 21) rfl (decide_eq_false (by omega)) ?_
   refine LW.q rfl (Qt.move rfl) ?_
   refine LW.q rfl (Qt.move rfl) ?_
   refine LW.q rfl (Qt.gtr rfl rfl) ?_
   refine LW.q rfl (Qt.pick rfl rfl) ?_
   refine LW.done ?_
   refine T.condPT rfl (by omega) ?_
   refine T.seq ?_
   refine T.region ?_
   refine LW.q rfl (Qt.assign rfl) ?_
   refine LW.done ?_
   refine T.ret ?_
   exact ⟨.inl rfl, _, _, res [_] rfl ⟨rvT rfl, trivial⟩, ⟨rfl, rfl⟩, hp_close [hpB g x.q x.pc h.cm.length x.cc h.last, stA x.q x.st, cmR x.pc h.cm.length x.cc h.cm, wlS b x.q x.s, plS b n logs count x.q x.s, dskA b x.s.D] x h hi2 rfl⟩
 ·
  rw [show (decide (ends < 0) || decide (lf < ends)) = false by simp; omega]
  simp only [Bool.not_false, Bool.true_and]
  refine LW.gF (t := 21) rfl (decide_eq_false (by omega)) ?_
  refine LW.q rfl (Qt.move rfl) ?_
  refine LW.q rfl (Qt.move rfl) ?_
  refine LW.q rfl (Qt.gtr rfl rfl) ?_
  refine LW.q rfl (Qt.pick rfl rfl) ?_
  refine LW.done ?_
  refine T.condPF rfl (by omega) ?_
  refine T.skip ?_
  refine T.seq ?_
  refine T.region ?_
  refine LW.q rfl (Qt.move rfl) ?_
  refine LW.q rfl (Qt.move rfl) ?_
  refine LW.q rfl (Qt.mul rfl rfl (wr64 (by omega) (by omega))) ?_
  refine LW.q rfl (Qt.sub rfl rfl (wr64 (by omega) (by omega))) ?_
  refine LW.q rfl (Qt.assign rfl) ?_
  refine LW.done ?_
  refine T.seq ?_
  refine T.region ?_
  refine LW.q rfl (Qt.move rfl) ?_
  refine LW.q rfl (Qt.nilCheck rfl) ?_
  refine LW.q rfl (Qt.fieldAddr (off := 4) (by kernel_rfl) rfl) ?_
  refine LW.q rfl (Qt.load (by kernel_rfl) rfl rfl) ?_
  refine LW.q rfl (Qt.nilCheck rfl) ?_
  refine LW.q rfl (Qt.fieldAddr0 (by kernel_rfl) rfl) ?_
  refine LW.e rfl (Ef.call (Bp.pages B x.q.gp b n logs count x.s.hand x.q.gl x.s.A) Tryz.func58 rfl rfl rfl ?_)
  rintro _ _ ⟨rfl, rfl⟩
  try simp only [cA, nA]
  refine LW.e rfl (Ef.make count (.int .i64 0) 8 Hp.elemI (by kernel_rfl) rfl rfl rfl rfl (by omega) (by unfold maxLen; omega) ?_)
  rintro gr
  try simp only [cA, nA]
  rw [made_iz]
  refine LW.e rfl (Ef.alloc [.slice none 0 0] (by unfold zeroB; kernel_rfl) ?_)
  intro g8
  refine LW.e0 rfl (Ef.store1 (by kernel_rfl) rfl rfl rfl (by first | (simp; done) | (simp; omega)) ?_)
  try simp only [List.set_cons_zero, List.set_cons_succ]
  refine LW.done ?_
  refine T.seq ?_
  refine T.seq ?_
  refine T.region ?_
  refine LW.q rfl (Qt.load (by kernel_rfl) rfl rfl) ?_
  refine LW.q rfl (Qt.len (e := 3) (sz := 1) (by kernel_rfl) rfl) ?_
  refine LW.q rfl (Qt.move rfl) ?_
  refine LW.done ?_
  refine T.block ?_
  refine T.loop (fun mz fz lz => ∃ (f0 : Fr) (k : Nat) (s2 : Pl) (R : List Int), (k ≤ count ∧ SInv logs count n (K + k) s2 h.es (recsOf h.vs) ∧ R = ((List.range k).map fun q => 256 - (usedP h.vs q : Int)) ++ List.replicate (count - k) 0) ∧ mz = count - k ∧ fz = (upd (upd (upd (upd (upd (upd f0 0 (pV g)) 2 (.slice a ns c)) 7 (.int .i64 (lf - 20 * ends))) 8 (pV g8)) 39 (.int .i64 count)) 40 (.int .i64 k)) ∧ lz = zR (some ⟨gr, 0, none⟩) count count R :: blk g8 [.slice (some ⟨gr, 0, none⟩) count count] 55 :: hpB g x.q x.pc h.cm.length x.cc h.last :: stA x.q x.st :: cmR x.pc h.cm.length x.cc h.cm :: wlS b x.q s2 :: plS b n logs count x.q s2 :: dskA b s2.D :: (S ++ F)) ?_ ?_
  · refine ⟨_, _, ⟨_, 0, x.s, List.replicate count 0, ⟨Nat.zero_le _, hi.s, by simp⟩, rfl, (updS rfl (updS rfl (updS rfl (updS rfl (updS rfl (updS rfl rfl)))))), rfl⟩, Sub.any⟩
  ·
   rintro mz fz lz ⟨f0, k, s2, R, ⟨hk, hs2, hR⟩, hmz, rfl, rfl⟩
   subst mz
   try simp only [cA, nA]
   have hRl : R.length = count := by rw [hR]; simp; omega
   refine T.seq ?_
   refine T.region ?_
   refine LW.q rfl (Qt.lss rfl rfl) ?_
   refine LW.done ?_
   refine T.seq ?_
   refine T.condP rfl (fun hlt => ?_) (fun hlt => ?_)
   ·
    refine T.skip ?_
    refine T.seq ?_
    refine T.block ?_
    refine T.seq ?_
    refine T.region ?_
    refine LW.q rfl (Qt.move rfl) ?_
    refine LW.e rfl (Ef.alloc [.int .i64 0] (by unfold zeroB; kernel_rfl) ?_)
    intro g9
    refine LW.e0 rfl (Ef.store1 (by kernel_rfl) rfl rfl rfl (by first | (simp; done) | (simp; omega)) ?_)
    try simp only [List.set_cons_zero, List.set_cons_succ]
    refine LW.done ?_
    refine T.region ?_
    refine LW.q rfl (Qt.move rfl) ?_
    refine LW.q rfl (Qt.load (by kernel_rfl) rfl rfl) ?_
    refine LW.q rfl (Qt.makeFunc [_, _] rfl) ?_
    refine LW.e rfl (Ef.call (Hp.with B g b n logs count (K + k) x.q x.pc h.cm.length x.cc h.last s2 h.es (recsOf h.vs) hs2 (by omega) k (by omega) k rfl 0 0 rfl (by omega) 70 Tryz.f70 [pV g8, pV g9] [blk g8 [.slice (some ⟨gr, 0, none⟩) count count] 55, blk g9 [.int .i64 k] 3, zR (some ⟨gr, 0, none⟩) count count R] (fun bb r' X' => bb = false ∧ X' = [blk g8 [.slice (some ⟨gr, 0, none⟩) count count] 55, blk g9 [.int .i64 k] 3, zR (some ⟨gr, 0, none⟩) count count (R.set k (243 - (usedR (recsOf h.vs k) : Int)))]) Tryz.func70 rfl rfl (fun gpg m => (Hp.fits1 B (hpB g x.q x.pc h.cm.length x.cc h.last) gpg g8 gr count count g9 (recsOf h.vs k) m R hRl (by omega) k (by omega)).mono (fun v l ⟨h1, h2⟩ => ⟨false, _, _, ⟨rfl, rfl⟩, h1, h2⟩)) (fun r' X' hh => by obtain ⟨h1, _⟩ := hh; cases h1)) Tryz.func59 rfl rfl rfl ?_)
    rintro _ _ ⟨bb, r', X', s', ⟨rfl, rfl⟩, hS, rfl, rfl⟩
    try simp only [cA, nA]
    have hS2 : SInv logs count n (K + k + 1) s' h.es (recsOf h.vs) := by simpa [rcSet] using hS
    refine LW.done ?_
    refine T.region ?_
    refine LW.q rfl (Qt.add rfl rfl (wr64 (by omega) (by omega))) ?_
    refine LW.q rfl (Qt.move rfl) ?_
    refine LW.done ?_
    refine ⟨_, ?_, _, ⟨_, k + 1, s', R.set k (243 - (usedR (recsOf h.vs k) : Int)), ⟨by omega, hS2, by rw [hR, room_at]; exact range_zero (by omega)⟩, rfl, (updS rfl (updS rfl (updS rfl (updS rfl (updS rfl (updS rfl rfl)))))), rfl⟩, Sub.any⟩
    omega
   ·
    obtain rfl : k = count := by omega
    have hi3 : HInv logs k n (K + k) s2 x.st h := ⟨hs2, hi.r, hi.st, hi.pages, hi.room, by have := hi.lastK; omega⟩
    have hRR : R = roomsL h := by rw [hR, Nat.sub_self]; unfold roomsL; rw [hpg]; simp
    have hRb : ∀ r ∈ R, 0 ≤ r ∧ r ≤ 256 := fun r hr => by
     rw [hRR] at hr
     obtain ⟨q, hq, rfl⟩ := List.mem_map.1 hr
     have := hi.r.ok.room q
     omega
    clear hR hlt hk
    refine T.exit ?_
    refine T.seq ?_
    refine T.seq ?_
    refine T.region ?_
    refine LW.q rfl (Qt.move rfl) ?_
    refine LW.q rfl (Qt.len (e := 3) (sz := 1) (by kernel_rfl) rfl) ?_
    refine LW.q rfl (Qt.move rfl) ?_
    refine LW.done ?_
    refine T.block ?_
    refine T.loop (fun mz fz lz => ∃ (f0 : Fr) (j : Nat) (left : Int) (R2 : List Int), (j ≤ ns ∧ R2.length = k ∧ (∀ r ∈ R2, 0 ≤ r ∧ r ≤ 256) ∧ -(50000000 + 300 * (j : Int)) < left ∧ left < 2000000 ∧ fitsP (roomsL h) (lf - 20 * ends) sizes = fitsP R2 left (sizes.drop j)) ∧ mz = ns - j ∧ fz = (upd (upd (upd (upd (upd (upd (upd f0 0 (pV g)) 2 (.slice a ns c)) 7 (.int .i64 left)) 8 (pV g8)) 48 (.slice a ns c)) 49 (.int .i64 ns)) 50 (.int .i64 j)) ∧ lz = zR (some ⟨gr, 0, none⟩) k k R2 :: blk g8 [.slice (some ⟨gr, 0, none⟩) k k] 55 :: hpB g x.q x.pc h.cm.length x.cc h.last :: stA x.q x.st :: cmR x.pc h.cm.length x.cc h.cm :: wlS b x.q s2 :: plS b n logs k x.q s2 :: dskA b s2.D :: (S ++ F)) ?_ ?_
    · refine ⟨_, _, ⟨_, 0, lf - 20 * ends, R, ⟨Nat.zero_le _, hRl, hRb, by omega, by omega, by rw [hRR]; rfl⟩, rfl, (updS rfl (updS rfl (updS rfl (updS rfl (updS rfl (updS rfl (updS rfl rfl))))))), rfl⟩, Sub.any⟩
    ·
     rintro mz fz lz ⟨f0, j, left, R2, ⟨hj, hR2l, hR2b, hlb1, hlb2, hff⟩, hmz, rfl, rfl⟩
     subst mz
     try simp only [cA, nA]
     refine T.seq ?_
     refine T.region ?_
     refine LW.q rfl (Qt.lss rfl rfl) ?_
     refine LW.done ?_
     refine T.seq ?_
     refine T.condP rfl (fun hlt => ?_) (fun hlt => ?_)
     ·
      obtain ⟨b0, o0, rfl, hcell⟩ := hv.at (by omega)
      have hjs : j < sizes.length := by omega
      have hc1 := fun w ho => hcell j (by simp; omega) w ho
      simp only [List.getElem_map] at hc1
      obtain ⟨sz, hsz⟩ : ∃ sz, sz = sizes[j] := ⟨_, rfl⟩
      rw [← hsz] at hc1
      rw [List.drop_eq_getElem_cons hjs, ← hsz] at hff
      by_cases hs : sz < 0 ∨ 184 < sz
      ·
       rw [hff, show fitsP R2 left (sz :: sizes.drop (j + 1)) = false by unfold fitsP; rw [if_pos hs]]
       by_cases hs0 : sz < 0
       ·
        refine T.skip ?_
        refine T.seq ?_
        refine T.block ?_
        refine T.seq ?_
        refine T.region ?_
        refine LW.q rfl (Qt.index _ (e := 3) (sz := 1) (by kernel_rfl) rfl rfl rfl (by omega)) ?_
        refine LW.q rfl (Qt.loadW (v := zV sz) (by kernel_rfl) rfl (fun w ho => hc1 w (ho.map Sub.any))) ?_
        refine LW.e rfl (Ef.alloc [.int .i64 0] (by unfold zeroB; kernel_rfl) ?_)
        intro g11
        refine LW.e0 rfl (Ef.store1 (by kernel_rfl) rfl rfl rfl (by first | (simp; done) | (simp; omega)) ?_)
        try simp only [List.set_cons_zero, List.set_cons_succ]
        refine LW.done ?_
        refine T.seq ?_
        refine T.seq ?_
        refine T.region ?_
        refine LW.q rfl (Qt.load (by kernel_rfl) rfl rfl) ?_
        refine LW.q rfl (Qt.lss rfl rfl) ?_
        refine LW.q rfl (Qt.move rfl) ?_
        refine LW.gT (t := 56) rfl (decide_eq_true (by omega)) ?_
        refine LW.s rfl ?_
        refine LW.s rfl ?_
        refine LW.q rfl (Qt.pick rfl rfl) ?_
        refine LW.done ?_
        refine T.condT rfl ?_
        refine T.seq ?_
        refine T.region ?_
        refine LW.q rfl (Qt.assign rfl) ?_
        refine LW.done ?_
        refine T.ret ?_
        exact ⟨.inl rfl, _, _, res [_] rfl ⟨rvT rfl, trivial⟩, ⟨rfl, rfl⟩, hp_close [hpB g x.q x.pc h.cm.length x.cc h.last, stA x.q x.st, cmR x.pc h.cm.length x.cc h.cm, wlS b x.q s2, plS b n logs k x.q s2, dskA b s2.D] { x with s := s2 } h hi3 rfl⟩
       ·
        refine T.skip ?_
        refine T.seq ?_
        refine T.block ?_
        refine T.seq ?_
        refine T.region ?_
        refine LW.q rfl (Qt.index _ (e := 3) (sz := 1) (by kernel_rfl) rfl rfl rfl (by omega)) ?_
        refine LW.q rfl (Qt.loadW (v := zV sz) (by kernel_rfl) rfl (fun w ho => hc1 w (ho.map Sub.any))) ?_
        refine LW.e rfl (Ef.alloc [.int .i64 0] (by unfold zeroB; kernel_rfl) ?_)
        intro g11
        refine LW.e0 rfl (Ef.store1 (by kernel_rfl) rfl rfl rfl (by first | (simp; done) | (simp; omega)) ?_)
        try simp only [List.set_cons_zero, List.set_cons_succ]
        refine LW.done ?_
        refine T.seq ?_
        refine T.seq ?_
        refine T.region ?_
        refine LW.q rfl (Qt.load (by kernel_rfl) rfl rfl) ?_
        refine LW.q rfl (Qt.lss rfl rfl) ?_
        refine LW.q rfl (Qt.move rfl) ?_
        refine LW.gF (t := 56) rfl (decide_eq_false (by omega)) ?_
        refine LW.q rfl (Qt.load (by kernel_rfl) rfl rfl) ?_
        refine LW.q rfl (Qt.gtr rfl rfl) ?_
        refine LW.q rfl (Qt.pick rfl rfl) ?_
        refine LW.done ?_
        refine T.condPT rfl (by omega) ?_
        refine T.seq ?_
        refine T.region ?_
        refine LW.q rfl (Qt.assign rfl) ?_
        refine LW.done ?_
        refine T.ret ?_
        exact ⟨.inl rfl, _, _, res [_] rfl ⟨rvT rfl, trivial⟩, ⟨rfl, rfl⟩, hp_close [hpB g x.q x.pc h.cm.length x.cc h.last, stA x.q x.st, cmR x.pc h.cm.length x.cc h.cm, wlS b x.q s2, plS b n logs k x.q s2, dskA b s2.D] { x with s := s2 } h hi3 rfl⟩
      ·
       refine T.skip ?_
       refine T.seq ?_
       refine T.block ?_
       refine T.seq ?_
       refine T.region ?_
       refine LW.q rfl (Qt.index _ (e := 3) (sz := 1) (by kernel_rfl) rfl rfl rfl (by omega)) ?_
       refine LW.q rfl (Qt.loadW (v := zV sz) (by kernel_rfl) rfl (fun w ho => hc1 w (ho.map Sub.any))) ?_
       refine LW.e rfl (Ef.alloc [.int .i64 0] (by unfold zeroB; kernel_rfl) ?_)
       intro g11
       refine LW.e0 rfl (Ef.store1 (by kernel_rfl) rfl rfl rfl (by first | (simp; done) | (simp; omega)) ?_)
       try simp only [List.set_cons_zero, List.set_cons_succ]
       refine LW.done ?_
       refine T.seq ?_
       refine T.seq ?_
       refine T.region ?_
       refine LW.q rfl (Qt.load (by kernel_rfl) rfl rfl) ?_
       refine LW.q rfl (Qt.lss rfl rfl) ?_
       refine LW.q rfl (Qt.move rfl) ?_
       refine LW.gF (t := 56) rfl (decide_eq_false (by omega)) ?_
       refine LW.q rfl (Qt.load (by kernel_rfl) rfl rfl) ?_
       refine LW.q rfl (Qt.gtr rfl rfl) ?_
       refine LW.q rfl (Qt.pick rfl rfl) ?_
       refine LW.done ?_
       refine T.condPF rfl (by omega) ?_
       refine T.skip ?_
       refine T.seq ?_
       refine T.region ?_
       refine LW.q rfl (Qt.move rfl) ?_
       refine LW.q rfl (Qt.load (by kernel_rfl) rfl rfl) ?_
       refine LW.q rfl (Qt.add rfl rfl (wr64 (by omega) (by omega))) ?_
       refine LW.q rfl (Qt.sub rfl rfl (wr64 (by omega) (by omega))) ?_
       refine LW.q rfl (Qt.assign rfl) ?_
       refine LW.done ?_
       refine T.seq ?_
       refine T.region ?_
       refine LW.q rfl (Qt.load (by kernel_rfl) rfl rfl) ?_
       refine LW.q rfl (Qt.makeFunc [_] rfl) ?_
       refine LW.e rfl (Ef.call (Hp.index B gr k k R2 hR2l (by omega) g11 sz (by omega)) Tryz.func72 rfl rfl rfl ?_)
       rintro _ _ ⟨rfl, rfl⟩
       try simp only [cA, nA]
       by_cases hno : (R2.findIdx? fun r => decide (sz + 17 ≤ r)) = none
       ·
        have hfalse : fitsP R2 left (sz :: sizes.drop (j + 1)) = false := by unfold fitsP; rw [if_neg hs, hno]
        rw [hff, hfalse]
        rw [hno]
        refine LW.q rfl (Qt.assign rfl) ?_
        refine LW.done ?_
        refine T.seq ?_
        refine T.seq ?_
        refine T.region ?_
        refine LW.q rfl (Qt.move rfl) ?_
        refine LW.q rfl (Qt.lss rfl rfl) ?_
        refine LW.done ?_
        refine T.condT rfl ?_
        refine T.seq ?_
        refine T.region ?_
        refine LW.q rfl (Qt.assign rfl) ?_
        refine LW.done ?_
        refine T.ret ?_
        exact ⟨.inl rfl, _, _, res [_] rfl ⟨rvT rfl, trivial⟩, ⟨rfl, rfl⟩, hp_close [hpB g x.q x.pc h.cm.length x.cc h.last, stA x.q x.st, cmR x.pc h.cm.length x.cc h.cm, wlS b x.q s2, plS b n logs k x.q s2, dskA b s2.D] { x with s := s2 } h hi3 rfl⟩
       ·
        obtain ⟨i, hi⟩ := Option.ne_none_iff_exists'.1 hno
        obtain ⟨hil, hi1, _⟩ := List.findIdx?_eq_some_iff_getElem.1 hi
        have hi1 : sz + 17 ≤ R2[i] := by simpa using hi1
        have hrb := hR2b R2[i] (List.getElem_mem _)
        have hstep : fitsP R2 left (sz :: sizes.drop (j + 1)) = fitsP (R2.set i (R2[i] - (sz + 17))) (left - (20 + sz)) (sizes.drop (j + 1)) := by
         conv => lhs; unfold fitsP
         rw [if_neg hs, hi]
         dsimp only
         rw [mod_set (List.getElem?_eq_getElem hil)]
        rw [hi, show idxI (some i) = (i : Int) from rfl]
        refine LW.q rfl (Qt.assign rfl) ?_
        refine LW.done ?_
        refine T.seq ?_
        refine T.seq ?_
        refine T.region ?_
        refine LW.q rfl (Qt.move rfl) ?_
        refine LW.q rfl (Qt.lss rfl rfl) ?_
        refine LW.done ?_
        refine T.condF rfl ?_
        refine T.skip ?_
        refine T.drawAll 7 (by kernel_rfl) (nB rfl) (by kernel_rfl) ?_
        refine RW.q 0 rfl rfl (by kernel_rfl) (Sub.refl _) (Qt.load (by kernel_rfl) rfl rfl) ?_
        refine RW.q 1 rfl rfl (by kernel_rfl) (Sub.refl _) (Qt.move rfl) ?_
        refine RW.q 2 rfl rfl (by kernel_rfl) (Sub.refl _) (Qt.index _ (e := 3) (sz := 1) (by kernel_rfl) rfl rfl rfl (by omega)) ?_
        refine RW.q 3 rfl rfl (by kernel_rfl) (Sub.refl _) (Qt.load (v := zV R2[i]) (by kernel_rfl) rfl (map_at _ _ _ (by omega))) ?_
        refine RW.q 4 rfl rfl (by kernel_rfl) (Sub.refl _) (Qt.load (by kernel_rfl) rfl rfl) ?_
        refine RW.q 5 rfl rfl (by kernel_rfl) (Sub.refl _) (Qt.add rfl rfl (wr64 (by omega) (by omega))) ?_
        refine RW.q 6 rfl rfl (by kernel_rfl) (Sub.refl _) (Qt.sub rfl rfl (wr64 (by omega) (by omega))) ?_
        refine RW.done (by rfl) ?_
        simp only [dS, dZ, dN]
        refine LW.q rfl (Qt.index _ (e := 3) (sz := 1) (by kernel_rfl) rfl rfl rfl (by omega)) ?_
        refine LW.e0 rfl (Ef.store1 (by kernel_rfl) rfl rfl rfl (by first | (simp; done) | (simp; omega)) ?_)
        try simp only [List.set_cons_zero, List.set_cons_succ]
        refine LW.done ?_
        refine T.region ?_
        refine LW.q rfl (Qt.add rfl rfl (wr64 (by omega) (by omega))) ?_
        refine LW.q rfl (Qt.move rfl) ?_
        refine LW.done ?_
        rw [set_map zV R2 i (R2[i] - (sz + 17))]
        refine ⟨_, ?_, _, ⟨_, j + 1, left - (20 + sz), R2.set i (R2[i] - (sz + 17)), ⟨by omega, by rw [List.length_set]; exact hR2l, fun r hr => by rcases List.mem_or_eq_of_mem_set hr with hr | rfl; exact hR2b r hr; omega, by omega, by omega, by rw [hff, hstep]⟩, rfl, (updS rfl (updS rfl (updS rfl (updS rfl (updS rfl (updS rfl (updS rfl rfl))))))), rfl⟩, Sub.any⟩
        omega
     ·
      obtain rfl : j = ns := by omega
      rw [List.drop_of_length_le (by omega)] at hff
      rw [hff]
      refine T.exit ?_
      refine T.seq ?_
      refine T.region ?_
      refine LW.q rfl (Qt.move rfl) ?_
      refine LW.q rfl (Qt.geq rfl rfl) ?_
      refine LW.q rfl (Qt.assign rfl) ?_
      refine LW.done ?_
      refine T.ret ?_
      exact ⟨.inl rfl, _, _, res [_] rfl ⟨rvT rfl, trivial⟩, ⟨rfl, rfl⟩, hp_close [hpB g x.q x.pc h.cm.length x.cc h.last, stA x.q x.st, cmR x.pc h.cm.length x.cc h.cm, wlS b x.q s2, plS b n logs k x.q s2, dskA b s2.D] { x with s := s2 } h hi3 rfl⟩
end Go.Proofs.YtiooeiapplnafaaGreatDoor
