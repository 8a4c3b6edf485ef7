/- The document's disk (annalsref01): the walk of Crash. Conditions: sizes. -/
import Derived.Test.YtdjfibkpmmcefaaRfC
namespace Go.Proofs.Ytdjfibkpmmcefaa
open Go.RowKit

/-- How many bytes of write number i the document keeps. -/
def rAmt (al : Bool) (keep : List Bool) (tear at_ : Int) (i : Nat) : Nat := if al = true then 256 else if (i : Int) = tear then clampN at_ else if keep.getD i false = true then 256 else 0
theorem rAmt_le (al : Bool) (keep : List Bool) (tear at_ : Int) (i : Nat) : rAmt al keep tear at_ i ≤ 256 := by
  unfold rAmt
  have := clampN_le at_
  split
  · omega
  · split
    · exact this
    · split <;> omega

set_option maxHeartbeats 1000000 in
set_option maxRecDepth 100000 in
theorem Rf.crash (B : Base) (p q : Option Addr) (a b n m : Nat) (al : Bool) (vk : Value) (keep : List Bool) (tear at_ : Int) (secs : List (List UInt8)) (pend : List (Nat × List UInt8)) (hD : DD.Ok ⟨secs, pend⟩) (hp : m < 2 ^ 32) (hk : RoS B vk (boolsV keep)) :
    Fn Try.prog B 28 #[.agg #[.slice p n a, .slice q m b], .bool al, vk, .int .i64 tear, .int .i64 at_] [rS (.slice p n a) n secs, rW (.slice q m b) m pend]
      (fun v l => ∃ p' a', v = .agg #[.slice p' n a', .slice none 0 0] ∧ l = [rS (.slice p' n a') n (DD.lays ⟨secs, pend⟩ (fun i => some (rAmt al keep tear at_ i)) m), rW (.slice none 0 0) 0 []]) := by
  obtain ⟨ka, kc, rfl, hkc⟩ := hk
  rw [show (boolsV keep).length = keep.length by simp [boolsV]]
  refine Fn.enter5 74 Try.func28 rfl rfl (Nat.le_of_ble_eq_true rfl) (fun F => ?_)
  try simp only [List.cons_append, List.nil_append]
  refine T.own (fun w ho => ?_)
  obtain ⟨-, hg, hsl⟩ := ho.slice_at (p := p) (m := n) (c := a)
  obtain ⟨-, hq, hpl⟩ := ho.slice_at (p := q) (m := m) (c := b)
  replace hsl : secs.length = n := by simpa using hsl
  replace hpl : pend.length = m := by rw [flat_length rpV 2 _ (fun _ _ => rfl)] at hpl; omega
  clear ho hg
  have hn1 : n ≤ 4096 := by rw [← hsl]; exact hD.max
  have hn0 : 0 < n := by rw [← hsl]; exact hD.pos
  refine T.seq ?_
  refine T.region ?_
  refine LW.e rfl (Ef.box [_, _] rfl rfl ?_)
  intro g5
  refine LW.e rfl (Ef.alloc [.slice none 0 0, .slice none 0 0] (by unfold zeroB; kernel_rfl) ?_)
  intro g10
  refine LW.done ?_
  refine T.seq ?_
  refine T.region ?_
  first | refine LW.q rfl (Qt.loadAgg [_, _] (by kernel_rfl) rfl ⟨rfl, rfl, trivial⟩) ?_ | refine LW.q rfl (Qt.loadAgg [_, _] (by kernel_rfl) rfl (by exact rdl_flat _ _ _ (by intros; rfl) _ (by omega))) ?_
  refine LW.e rfl (Ef.call (Rf.copy B p q a b n m secs pend hn1 hp) Try.func29 rfl rfl rfl ?_)
  rintro _ _ ⟨p1, a1, q1, b1, rfl, rfl⟩
  try simp only [List.cons_append, List.nil_append]
  refine LW.e rfl (Ef.alloc [.slice none 0 0, .slice none 0 0] (by unfold zeroB; kernel_rfl) ?_)
  intro g11
  refine LW.e0 rfl (Ef.store [_, _] (by kernel_rfl) rfl rfl rfl rfl (by simp) ?_)
  try simp only [splice, List.length_cons, List.length_nil, List.drop_succ_cons, List.cons_append, List.take_succ_cons, List.take_zero, List.drop_zero, List.nil_append, List.append_nil]
  refine LW.done ?_
  refine T.seq ?_
  refine T.region ?_
  refine LW.q rfl (Qt.fieldAddr (off := 1) (by kernel_rfl) rfl) ?_
  refine LW.e0 rfl (Ef.store1 (by kernel_rfl) rfl rfl rfl (by first | (simp; done) | (simp; omega)) ?_)
  try simp only [List.set_cons_zero, List.set_cons_succ]
  refine LW.done ?_
  refine T.seq ?_
  refine T.seq ?_
  refine T.region ?_
  refine LW.q rfl (Qt.assign rfl) ?_
  refine LW.done ?_
  refine T.block ?_
  refine T.own (fun w ho => ?_)
  obtain ⟨-, hg1, -⟩ := ho.slice_at (p := p1) (m := n) (c := a1)
  obtain ⟨gs, rfl⟩ := hg1 hn0
  clear ho hg1
  refine T.loop (fun mz fz lz => ∃ (f0 : Fr) (k : Nat) (S : List (List UInt8)), (k ≤ m ∧ S = DD.lays ⟨secs, pend⟩ (fun i => some (rAmt al keep tear at_ i)) k) ∧ mz = m - k ∧ fz = (upd (upd (upd (upd (upd (upd (upd (upd f0 1 (.bool al)) 2 (.slice ka keep.length kc)) 3 (.int .i64 tear)) 4 (.int .i64 at_)) 5 (.pointer (some ⟨g5, 0, none⟩))) 10 (.pointer (some ⟨g10, 0, none⟩))) 11 (.pointer (some ⟨g11, 0, none⟩))) 12 (.int .i64 k)) ∧ lz = [blk g11 [.slice (some ⟨gs, 0, none⟩) n a1, .slice none 0 0] 41, rS (.slice (some ⟨gs, 0, none⟩) n a1) n S, blk g5 [.slice p n a, .slice q m b] 41, rW (.slice q m b) m pend, blk g10 [.slice none 0 0, .slice none 0 0] 41] ++ F) ?_ ?_
  · refine ⟨_, _, ⟨_, 0, secs, ⟨Nat.zero_le _, rfl⟩, rfl, (updS rfl (updS rfl (updS rfl (updS rfl (updS rfl (updS rfl (updS rfl (updS rfl rfl)))))))), rfl⟩, Sub.any⟩
  · skip
    rintro mz fz lz ⟨f0, k, S, ⟨hkm, hS⟩, rfl, rfl, rfl⟩
    try simp only [List.cons_append, List.nil_append]
    refine T.seq ?_
    refine T.seq ?_
    refine T.region ?_
    refine LW.q rfl (Qt.move rfl) ?_
    refine LW.q rfl (Qt.fieldAddr (off := 1) (by kernel_rfl) rfl) ?_
    first | refine LW.q rfl (Qt.load (by kernel_rfl) rfl rfl) ?_ | refine LW.q rfl (Qt.load (by kernel_rfl) rfl (map_at _ _ _ (by omega))) ?_ | refine LW.q rfl (Qt.load (by kernel_rfl) rfl (flat_cell0 _ _ _ (by intros; rfl) _ (by omega) (by rfl))) ?_ | refine LW.q rfl (Qt.load (by kernel_rfl) rfl (flat_cell _ _ _ (by intros; rfl) _ _ (by omega) (by rfl))) ?_ | refine LW.q rfl (Qt.load (by kernel_rfl) rfl (bytes_at _ _ (by omega))) ?_
    refine LW.q rfl (Qt.len (e := 76) (sz := 2) (by kernel_rfl) rfl) ?_
    refine LW.q rfl (Qt.lss rfl rfl) ?_
    refine LW.done ?_
    refine T.condP rfl (fun hlt => ?_) (fun hlt => ?_)
    · skip
      obtain ⟨gq, rfl⟩ := hq (by omega)
      obtain ⟨hSl, hSn⟩ := DD.lays_ok hD (fun i => some (rAmt al keep tear at_ i)) (fun i k e => by cases e; exact rAmt_le ..) k
      rw [← hS] at hSl hSn
      simp only [hsl] at hSn
      refine T.skip ?_
      refine T.seq ?_
      refine T.block ?_
      refine T.seq ?_
      refine T.region ?_
      refine LW.q rfl (Qt.fieldAddr (off := 1) (by kernel_rfl) rfl) ?_
      first | refine LW.q rfl (Qt.load (by kernel_rfl) rfl rfl) ?_ | refine LW.q rfl (Qt.load (by kernel_rfl) rfl (map_at _ _ _ (by omega))) ?_ | refine LW.q rfl (Qt.load (by kernel_rfl) rfl (flat_cell0 _ _ _ (by intros; rfl) _ (by omega) (by rfl))) ?_ | refine LW.q rfl (Qt.load (by kernel_rfl) rfl (flat_cell _ _ _ (by intros; rfl) _ _ (by omega) (by rfl))) ?_ | refine LW.q rfl (Qt.load (by kernel_rfl) rfl (bytes_at _ _ (by omega))) ?_
      refine LW.q rfl (Qt.move rfl) ?_
      refine LW.q rfl (Qt.index _ (e := 76) (sz := 2) (by kernel_rfl) rfl rfl rfl (by omega)) ?_
      first | refine LW.q rfl (Qt.loadAgg [_, _] (by kernel_rfl) rfl ⟨rfl, rfl, trivial⟩) ?_ | refine LW.q rfl (Qt.loadAgg [_, _] (by kernel_rfl) rfl (by exact rdl_flat _ _ _ (by intros; rfl) _ (by omega))) ?_
      refine LW.e rfl (Ef.alloc [.int .i64 0, .string .empty] (by unfold zeroB; kernel_rfl) ?_)
      intro g13
      refine LW.e0 rfl (Ef.store [_, _] (by kernel_rfl) rfl rfl rfl rfl (by simp) ?_)
      try simp only [splice, List.length_cons, List.length_nil, List.drop_succ_cons, List.cons_append, List.take_succ_cons, List.take_zero, List.drop_zero, List.nil_append, List.append_nil]
      refine LW.done ?_
      refine T.seq ?_
      refine T.region ?_
      refine LW.q rfl (Qt.assign rfl) ?_
      refine LW.done ?_
      refine T.cut (fun fz lz => ∃ (f0 : Fr) (n1 : Nat), (n1 = if al = true ∨ keep.getD k false = true then 256 else 0) ∧ fz = (upd (upd (upd (upd (upd (upd (upd (upd (upd (upd f0 1 (.bool al)) 2 (.slice ka keep.length kc)) 3 (.int .i64 tear)) 4 (.int .i64 at_)) 5 (.pointer (some ⟨g5, 0, none⟩))) 10 (.pointer (some ⟨g10, 0, none⟩))) 11 (.pointer (some ⟨g11, 0, none⟩))) 12 (.int .i64 k)) 13 (.pointer (some ⟨g13, 0, none⟩))) 14 (.int .i64 n1)) ∧ lz = [blk g13 [.int .i64 pend[k].1, strV pend[k].2] 76, blk g11 [.slice (some ⟨gs, 0, none⟩) n a1, .slice none 0 0] 41, rS (.slice (some ⟨gs, 0, none⟩) n a1) n S, blk g5 [.slice p n a, .slice (some ⟨gq, 0, none⟩) m b] 41, rW (.slice (some ⟨gq, 0, none⟩) m b) m pend, blk g10 [.slice none 0 0, .slice none 0 0] 41] ++ F) ?_ ?_
      · skip
        refine T.seq ?_
        refine T.region ?_
        refine LW.q rfl (Qt.move rfl) ?_
        refine LW.q rfl (Qt.move rfl) ?_
        refine LW.split (t := 31) rfl (fun hal => ?_) (fun hal => ?_)
        · skip
          try replace hal := of_decide_eq_true hal
          refine LW.s rfl ?_
          refine LW.s rfl ?_
          refine LW.s rfl ?_
          refine LW.s rfl ?_
          refine LW.s rfl ?_
          refine LW.s rfl ?_
          refine LW.s rfl ?_
          refine LW.s rfl ?_
          refine LW.s rfl ?_
          refine LW.s rfl ?_
          refine LW.q rfl (Qt.pick rfl rfl) ?_
          refine LW.done ?_
          first | refine T.condT rfl ?_ | refine T.condPT rfl (by omega) ?_ | refine T.condBT rfl (by omega) ?_
          refine T.region ?_
          refine LW.q rfl (Qt.assign rfl) ?_
          refine LW.done ?_
          exact ⟨_, ⟨_, 256, by simp [hal], (updS rfl (updS rfl (updS rfl (updS rfl (updS rfl (updS rfl (updS rfl (updS rfl (updS rfl (updS rfl rfl)))))))))), rfl⟩, Sub.any⟩
        · skip
          try replace hal := of_decide_eq_false hal
          refine LW.q rfl (Qt.move rfl) ?_
          refine LW.q rfl (Qt.move rfl) ?_
          refine LW.q rfl (Qt.len (e := 4) (sz := 1) (by kernel_rfl) rfl) ?_
          refine LW.q rfl (Qt.lss rfl rfl) ?_
          refine LW.q rfl (Qt.move rfl) ?_
          refine LW.split (t := 36) rfl (fun hkl => ?_) (fun hkl => ?_)
          · skip
            try replace hkl := of_decide_eq_true hkl
            obtain ⟨kb, ko, C, rfl, hro, hC⟩ : ∃ kb ko C, ka = some ⟨kb, ko, none⟩ ∧ ROc B kb C ∧ ∀ j u, (boolsV keep)[j]? = some u → C[ko + j * 1]? = some u := by rcases hkc with h | h; (have : keep.length = 0 := by simpa [boolsV] using congrArg List.length h); omega; exact h
            refine LW.q rfl (Qt.move rfl) ?_
            refine LW.q rfl (Qt.move rfl) ?_
            refine LW.q rfl (Qt.index _ (e := 4) (sz := 1) (by kernel_rfl) rfl rfl rfl (by omega)) ?_
            refine LW.q rfl (Qt.load (v := .bool (keep[k]'(by omega))) (by kernel_rfl) rfl (hC k _ (by simp [boolsV]))) ?_
            refine LW.q rfl (Qt.pick rfl rfl) ?_
            refine LW.q rfl (Qt.pick rfl rfl) ?_
            refine LW.done ?_
            refine T.cond rfl (fun hkk => ?_) (fun hkk => ?_)
            · skip
              refine T.region ?_
              refine LW.q rfl (Qt.assign rfl) ?_
              refine LW.done ?_
              exact ⟨_, ⟨_, 256, by simp [hal, List.getD, List.getElem?_eq_getElem (show k < keep.length by omega), hkk], (updS rfl (updS rfl (updS rfl (updS rfl (updS rfl (updS rfl (updS rfl (updS rfl (updS rfl (updS rfl rfl)))))))))), rfl⟩, Sub.any⟩
            · skip
              refine T.skip ?_
              exact ⟨_, ⟨_, 0, by simp [hal, List.getD, List.getElem?_eq_getElem (show k < keep.length by omega), hkk], (updS rfl (updS rfl (updS rfl (updS rfl (updS rfl (updS rfl (updS rfl (updS rfl (updS rfl (updS rfl rfl)))))))))), rfl⟩, Sub.any⟩
          · skip
            try replace hkl := of_decide_eq_false hkl
            refine LW.s rfl ?_
            refine LW.s rfl ?_
            refine LW.s rfl ?_
            refine LW.s rfl ?_
            refine LW.q rfl (Qt.pick rfl rfl) ?_
            refine LW.q rfl (Qt.pick rfl rfl) ?_
            refine LW.done ?_
            first | refine T.condF rfl ?_ | refine T.condPF rfl (by omega) ?_ | refine T.condBF rfl (by omega) ?_
            refine T.skip ?_
            exact ⟨_, ⟨_, 0, by simp [hal, List.getD, List.getElem?_eq_none (show keep.length ≤ k by omega)], (updS rfl (updS rfl (updS rfl (updS rfl (updS rfl (updS rfl (updS rfl (updS rfl (updS rfl (updS rfl rfl)))))))))), rfl⟩, Sub.any⟩
      rintro fz lz ⟨f0, n1, hn1, rfl, rfl⟩
      try simp only [List.cons_append, List.nil_append]
      refine T.cut (fun fz lz => ∃ (f0 : Fr) (n2 : Nat), (n2 = rAmt al keep tear at_ k) ∧ fz = (upd (upd (upd (upd (upd (upd (upd (upd (upd (upd f0 1 (.bool al)) 2 (.slice ka keep.length kc)) 3 (.int .i64 tear)) 4 (.int .i64 at_)) 5 (.pointer (some ⟨g5, 0, none⟩))) 10 (.pointer (some ⟨g10, 0, none⟩))) 11 (.pointer (some ⟨g11, 0, none⟩))) 12 (.int .i64 k)) 13 (.pointer (some ⟨g13, 0, none⟩))) 14 (.int .i64 n2)) ∧ lz = [blk g13 [.int .i64 pend[k].1, strV pend[k].2] 76, blk g11 [.slice (some ⟨gs, 0, none⟩) n a1, .slice none 0 0] 41, rS (.slice (some ⟨gs, 0, none⟩) n a1) n S, blk g5 [.slice p n a, .slice (some ⟨gq, 0, none⟩) m b] 41, rW (.slice (some ⟨gq, 0, none⟩) m b) m pend, blk g10 [.slice none 0 0, .slice none 0 0] 41] ++ F) ?_ ?_
      · skip
        refine T.seq ?_
        refine T.region ?_
        refine LW.q rfl (Qt.move rfl) ?_
        first | refine LW.q rfl (Qt.notP rfl) ?_ | refine LW.q rfl (Qt.notB rfl) ?_
        refine LW.q rfl (Qt.move rfl) ?_
        refine LW.split (t := 45) rfl (fun hal => ?_) (fun hal => ?_)
        · skip
          try replace hal := of_decide_eq_true hal
          refine LW.q rfl (Qt.move rfl) ?_
          refine LW.q rfl (Qt.move rfl) ?_
          refine LW.q rfl (Qt.eql rfl rfl) ?_
          refine LW.q rfl (Qt.pick rfl rfl) ?_
          refine LW.done ?_
          refine T.condP rfl (fun hkt => ?_) (fun hkt => ?_)
          · skip
            refine T.seq ?_
            refine T.region ?_
            refine LW.q rfl (Qt.move rfl) ?_
            refine LW.q rfl (Qt.assign rfl) ?_
            refine LW.done ?_
            refine T.seq ?_
            refine T.seq ?_
            refine T.region ?_
            refine LW.q rfl (Qt.move rfl) ?_
            refine LW.q rfl (Qt.lss rfl rfl) ?_
            refine LW.done ?_
            refine T.condP rfl (fun h0 => ?_) (fun h0 => ?_)
            · skip
              refine T.region ?_
              refine LW.q rfl (Qt.assign rfl) ?_
              refine LW.done ?_
              refine T.seq ?_
              refine T.region ?_
              refine LW.q rfl (Qt.move rfl) ?_
              refine LW.q rfl (Qt.gtr rfl rfl) ?_
              refine LW.done ?_
              first | refine T.condF rfl ?_ | refine T.condPF rfl (by omega) ?_ | refine T.condBF rfl (by omega) ?_
              refine T.skip ?_
              exact ⟨_, ⟨_, 0, by simp at hal; simp [rAmt, hal, hkt, clampN] <;> omega, (updS rfl (updS rfl (updS rfl (updS rfl (updS rfl (updS rfl (updS rfl (updS rfl (updS rfl (updS rfl rfl)))))))))), rfl⟩, Sub.any⟩
            · skip
              refine T.skip ?_
              refine T.seq ?_
              refine T.region ?_
              refine LW.q rfl (Qt.move rfl) ?_
              refine LW.q rfl (Qt.gtr rfl rfl) ?_
              refine LW.done ?_
              refine T.condP rfl (fun h1 => ?_) (fun h1 => ?_)
              · skip
                refine T.region ?_
                refine LW.q rfl (Qt.assign rfl) ?_
                refine LW.done ?_
                exact ⟨_, ⟨_, 256, by simp at hal; simp [rAmt, hal, hkt, clampN] <;> omega, (updS rfl (updS rfl (updS rfl (updS rfl (updS rfl (updS rfl (updS rfl (updS rfl (updS rfl (updS rfl rfl)))))))))), rfl⟩, Sub.any⟩
              · skip
                obtain ⟨an, rfl⟩ : ∃ an : Nat, at_ = an := ⟨at_.toNat, by omega⟩
                refine T.skip ?_
                exact ⟨_, ⟨_, an, by simp at hal; simp [rAmt, hal, hkt, clampN] <;> omega, (updS rfl (updS rfl (updS rfl (updS rfl (updS rfl (updS rfl (updS rfl (updS rfl (updS rfl (updS rfl rfl)))))))))), rfl⟩, Sub.any⟩
          · skip
            refine T.skip ?_
            exact ⟨_, ⟨_, n1, by simp at hal; rw [hn1]; simp [rAmt, hal, hkt], (updS rfl (updS rfl (updS rfl (updS rfl (updS rfl (updS rfl (updS rfl (updS rfl (updS rfl (updS rfl rfl)))))))))), rfl⟩, Sub.any⟩
        · skip
          try replace hal := of_decide_eq_false hal
          refine LW.s rfl ?_
          refine LW.s rfl ?_
          refine LW.s rfl ?_
          refine LW.q rfl (Qt.pick rfl rfl) ?_
          refine LW.done ?_
          first | refine T.condF rfl ?_ | refine T.condPF rfl (by omega) ?_ | refine T.condBF rfl (by omega) ?_
          refine T.skip ?_
          exact ⟨_, ⟨_, n1, by simp at hal; rw [hn1]; simp [rAmt, hal], (updS rfl (updS rfl (updS rfl (updS rfl (updS rfl (updS rfl (updS rfl (updS rfl (updS rfl (updS rfl rfl)))))))))), rfl⟩, Sub.any⟩
      rintro fz lz ⟨f0, n2, hn2, rfl, rfl⟩
      try simp only [List.cons_append, List.nil_append]
      have hd1 := hD.data pend[k] (List.getElem_mem _)
      have ha1 := hD.at_ pend[k] (List.getElem_mem _)
      simp only [hsl] at ha1
      have hn2' := rAmt_le al keep tear at_ k
      rw [← hn2] at hn2'
      have hs1 : (S[pend[k].1]'(by omega)).length = 256 := hSl _ (List.getElem_mem _)
      refine T.drawAll 17 (by kernel_rfl) (Nat.le_of_ble_eq_true rfl) (by kernel_rfl) ?_
      refine RW.q 0 rfl rfl (by kernel_rfl) (Sub.refl _) (Qt.fieldAddr0 (by kernel_rfl) rfl) ?_
      first | refine RW.q 1 rfl rfl (by kernel_rfl) (Sub.refl _) (Qt.load (by kernel_rfl) rfl rfl) ?_ | refine RW.q 1 rfl rfl (by kernel_rfl) (Sub.refl _) (Qt.load (by kernel_rfl) rfl (map_at _ _ _ (by omega))) ?_ | refine RW.q 1 rfl rfl (by kernel_rfl) (Sub.refl _) (Qt.load (by kernel_rfl) rfl (flat_cell0 _ _ _ (by intros; rfl) _ (by omega) (by rfl))) ?_ | refine RW.q 1 rfl rfl (by kernel_rfl) (Sub.refl _) (Qt.load (by kernel_rfl) rfl (flat_cell _ _ _ (by intros; rfl) _ _ (by omega) (by rfl))) ?_ | refine RW.q 1 rfl rfl (by kernel_rfl) (Sub.refl _) (Qt.load (by kernel_rfl) rfl (bytes_at _ _ (by omega))) ?_
      refine RW.q 2 rfl rfl (by kernel_rfl) (Sub.refl _) (Qt.fieldAddr0 (by kernel_rfl) rfl) ?_
      first | refine RW.q 3 rfl rfl (by kernel_rfl) (Sub.refl _) (Qt.load (by kernel_rfl) rfl rfl) ?_ | refine RW.q 3 rfl rfl (by kernel_rfl) (Sub.refl _) (Qt.load (by kernel_rfl) rfl (map_at _ _ _ (by omega))) ?_ | refine RW.q 3 rfl rfl (by kernel_rfl) (Sub.refl _) (Qt.load (by kernel_rfl) rfl (flat_cell0 _ _ _ (by intros; rfl) _ (by omega) (by rfl))) ?_ | refine RW.q 3 rfl rfl (by kernel_rfl) (Sub.refl _) (Qt.load (by kernel_rfl) rfl (flat_cell _ _ _ (by intros; rfl) _ _ (by omega) (by rfl))) ?_ | refine RW.q 3 rfl rfl (by kernel_rfl) (Sub.refl _) (Qt.load (by kernel_rfl) rfl (bytes_at _ _ (by omega))) ?_
      refine RW.q 4 rfl rfl (by kernel_rfl) (Sub.refl _) (Qt.fieldAddr (off := 1) (by kernel_rfl) rfl) ?_
      first | refine RW.q 5 rfl rfl (by kernel_rfl) (Sub.refl _) (Qt.load (by kernel_rfl) rfl rfl) ?_ | refine RW.q 5 rfl rfl (by kernel_rfl) (Sub.refl _) (Qt.load (by kernel_rfl) rfl (map_at _ _ _ (by omega))) ?_ | refine RW.q 5 rfl rfl (by kernel_rfl) (Sub.refl _) (Qt.load (by kernel_rfl) rfl (flat_cell0 _ _ _ (by intros; rfl) _ (by omega) (by rfl))) ?_ | refine RW.q 5 rfl rfl (by kernel_rfl) (Sub.refl _) (Qt.load (by kernel_rfl) rfl (flat_cell _ _ _ (by intros; rfl) _ _ (by omega) (by rfl))) ?_ | refine RW.q 5 rfl rfl (by kernel_rfl) (Sub.refl _) (Qt.load (by kernel_rfl) rfl (bytes_at _ _ (by omega))) ?_
      refine RW.q 6 rfl rfl (by kernel_rfl) (Sub.refl _) (Qt.move rfl) ?_
      refine RW.q 7 rfl rfl (by kernel_rfl) (Sub.refl _) (Qt.sliceS_ns _ (by kernel_rfl) rfl rfl rfl (by omega)) ?_
      refine RW.q 8 rfl rfl (by kernel_rfl) (Sub.refl _) (Qt.fieldAddr0 (by kernel_rfl) rfl) ?_
      first | refine RW.q 9 rfl rfl (by kernel_rfl) (Sub.refl _) (Qt.load (by kernel_rfl) rfl rfl) ?_ | refine RW.q 9 rfl rfl (by kernel_rfl) (Sub.refl _) (Qt.load (by kernel_rfl) rfl (map_at _ _ _ (by omega))) ?_ | refine RW.q 9 rfl rfl (by kernel_rfl) (Sub.refl _) (Qt.load (by kernel_rfl) rfl (flat_cell0 _ _ _ (by intros; rfl) _ (by omega) (by rfl))) ?_ | refine RW.q 9 rfl rfl (by kernel_rfl) (Sub.refl _) (Qt.load (by kernel_rfl) rfl (flat_cell _ _ _ (by intros; rfl) _ _ (by omega) (by rfl))) ?_ | refine RW.q 9 rfl rfl (by kernel_rfl) (Sub.refl _) (Qt.load (by kernel_rfl) rfl (bytes_at _ _ (by omega))) ?_
      refine RW.q 10 rfl rfl (by kernel_rfl) (Sub.refl _) (Qt.fieldAddr0 (by kernel_rfl) rfl) ?_
      first | refine RW.q 11 rfl rfl (by kernel_rfl) (Sub.refl _) (Qt.load (by kernel_rfl) rfl rfl) ?_ | refine RW.q 11 rfl rfl (by kernel_rfl) (Sub.refl _) (Qt.load (by kernel_rfl) rfl (map_at _ _ _ (by omega))) ?_ | refine RW.q 11 rfl rfl (by kernel_rfl) (Sub.refl _) (Qt.load (by kernel_rfl) rfl (flat_cell0 _ _ _ (by intros; rfl) _ (by omega) (by rfl))) ?_ | refine RW.q 11 rfl rfl (by kernel_rfl) (Sub.refl _) (Qt.load (by kernel_rfl) rfl (flat_cell _ _ _ (by intros; rfl) _ _ (by omega) (by rfl))) ?_ | refine RW.q 11 rfl rfl (by kernel_rfl) (Sub.refl _) (Qt.load (by kernel_rfl) rfl (bytes_at _ _ (by omega))) ?_
      refine RW.q 12 rfl rfl (by kernel_rfl) (Sub.refl _) (Qt.index _ (e := 9) (sz := 1) (by kernel_rfl) rfl rfl rfl (by omega)) ?_
      first | refine RW.q 13 rfl rfl (by kernel_rfl) (Sub.refl _) (Qt.load (by kernel_rfl) rfl rfl) ?_ | refine RW.q 13 rfl rfl (by kernel_rfl) (Sub.refl _) (Qt.load (by kernel_rfl) rfl (map_at _ _ _ (by omega))) ?_ | refine RW.q 13 rfl rfl (by kernel_rfl) (Sub.refl _) (Qt.load (by kernel_rfl) rfl (flat_cell0 _ _ _ (by intros; rfl) _ (by omega) (by rfl))) ?_ | refine RW.q 13 rfl rfl (by kernel_rfl) (Sub.refl _) (Qt.load (by kernel_rfl) rfl (flat_cell _ _ _ (by intros; rfl) _ _ (by omega) (by rfl))) ?_ | refine RW.q 13 rfl rfl (by kernel_rfl) (Sub.refl _) (Qt.load (by kernel_rfl) rfl (bytes_at _ _ (by omega))) ?_
      refine RW.q 14 rfl rfl (by kernel_rfl) (Sub.refl _) (Qt.move rfl) ?_
      refine RW.q 15 rfl rfl (by kernel_rfl) (Sub.refl _) (Qt.sliceS_sn _ (by kernel_rfl) rfl rfl rfl (by omega)) ?_
      refine RW.q 16 rfl rfl (by kernel_rfl) (Sub.refl _) (Qt.addS rfl rfl (by simp only [List.length_take, List.length_drop]; omega)) ?_
      refine RW.done (by rfl) ?_
      simp only [List.drop_succ_cons, List.drop_zero, List.drop_nil]
      refine LW.q rfl (Qt.index _ (e := 9) (sz := 1) (by kernel_rfl) rfl rfl rfl (by omega)) ?_
      refine LW.e0 rfl (Ef.store1 (by kernel_rfl) rfl rfl rfl (by first | (simp; done) | (simp; omega)) ?_)
      try simp only [List.set_cons_zero, List.set_cons_succ]
      rw [set_map strV]
      refine LW.done ?_
      refine T.region ?_
      refine LW.q rfl (Qt.move rfl) ?_
      refine LW.q rfl (Qt.add rfl rfl (wr64 (by omega) (by omega))) ?_
      refine LW.q rfl (Qt.assign rfl) ?_
      refine LW.done ?_
      refine ⟨_, ?_, _, ⟨_, k + 1, S.set pend[k].1 (pend[k].2.take n2 ++ (S[pend[k].1]'(by omega)).drop n2), ⟨by omega, by rw [DD.lays_some ⟨secs, pend⟩ (fun i => some (rAmt al keep tear at_ i)) k n2 (by simp only; omega) (by rw [hn2]), ← hS]; simp [layW, List.getD, List.getElem?_eq_getElem (show pend[k].1 < S.length by omega)]⟩, rfl, (updS rfl (updS rfl (updS rfl (updS rfl (updS rfl (updS rfl (updS rfl (updS rfl rfl)))))))), rfl⟩, Sub.any⟩
      first | omega | (simp; omega)
    · skip
      have e : k = m := by omega
      subst e
      subst hS
      refine T.conv (fun w ho => Rf.nilW ho) ?_
      refine T.exit ?_
      refine T.seq ?_
      refine T.region ?_
      first | refine LW.q rfl (Qt.loadAgg [_, _] (by kernel_rfl) rfl ⟨rfl, rfl, trivial⟩) ?_ | refine LW.q rfl (Qt.loadAgg [_, _] (by kernel_rfl) rfl (by exact rdl_flat _ _ _ (by intros; rfl) _ (by omega))) ?_
      refine LW.e0 rfl (Ef.store [_, _] (by kernel_rfl) rfl rfl rfl rfl (by simp) ?_)
      try simp only [splice, List.length_cons, List.length_nil, List.drop_succ_cons, List.cons_append, List.take_succ_cons, List.take_zero, List.drop_zero, List.nil_append, List.append_nil]
      refine LW.done ?_
      refine T.ret ?_
      exact ⟨.inl rfl, _, _, res [_] rfl ⟨rvA [_, _] (by kernel_rfl) rfl ⟨rfl, rfl, trivial⟩, trivial⟩, ⟨_, _, rfl, rfl⟩, Sub.any⟩
end Go.Proofs.Ytdjfibkpmmcefaa
