/- The statements' own page (annalsref03): Open finds what openR says. Conditions: sizes. -/
import Derived.Test.YtjjhbpjbngdlnaaDoorRcC
namespace Go.Proofs.YtjjhbpjbngdlnaaDoor
open Go.RowKit

def ROpenPost (a : List UInt8) (v : Value) (l : List Assn) : Prop := match openR a with
  | .error e => v = .tuple #[.agg #[.slice none 0 0, .int .i64 0], .int .i64 e] ∧ l = []
  | .ok (recs, mark) => ∃ q c, v = .tuple #[.agg #[.slice q recs.length c, .int .i64 mark], .int .i64 0] ∧ l = [strR q recs.length c recs]
theorem ROpenPost.err {a : List UInt8} {e : Int} {v : Value} {l : List Assn} (h : openR a = .error e) (hv : v = .tuple #[.agg #[.slice none 0 0, .int .i64 0], .int .i64 e]) (hl : l = []) : ROpenPost a v l := by
  unfold ROpenPost; rw [h]; exact ⟨hv, hl⟩
theorem ROpenPost.ok {a : List UInt8} {recs : List (List UInt8)} {mark : Int} {q : Option Addr} {c : Nat} {v : Value} {l : List Assn} (h : openR a = .ok (recs, mark)) (hv : v = .tuple #[.agg #[.slice q recs.length c, .int .i64 mark], .int .i64 0]) (hl : l = [strR q recs.length c recs]) : ROpenPost a v l := by
  unfold ROpenPost; rw [h]; exact ⟨q, c, hv, hl⟩
theorem openR_10 {b : List UInt8} (h1 : b.length ≠ 256) : openR b = .error 10 := by
  unfold openR; rw [if_pos h1]
theorem openR_30 {b : List UInt8} (h1 : b.length = 256) (h2 : get64 (b.take 4) ≠ sumN (b.drop 4)) : openR b = .error 30 := by
  unfold openR; rw [if_neg (by omega), if_pos h2]
theorem pg_tail (recs : List (List UInt8)) (mark : Int) : (pgBytes recs mark).drop (13 + usedR recs) = List.replicate (243 - usedR recs) 0 := by
  have e13 : (pgBytes recs mark).drop 13 = recBytes recs ++ List.replicate (243 - usedR recs) 0 := by
    rw [show (13 : Nat) = 4 + 9 from rfl, ← List.drop_drop]
    unfold pgBytes
    rw [List.drop_left' (length_be _ _)]
    unfold pgBody; rw [List.append_assoc, List.drop_left' (length_pgHead _ _)]
  rw [← List.drop_drop, e13, List.drop_left' (length_recBytes _)]
/-- Where the statements' last test stands: the bytes are the page's own just where the rest is noughts. -/
theorem last_test {a : List UInt8} {recs : List (List UInt8)} {mark : Int} (h1 : a.length = 256) (h2 : get64 (a.take 4) = sumN (a.drop 4)) (hm : IntKind.i64.wrap (get64 ((a.take 12).drop 4)).toNat = mark)
    (hp : parseR (a.getD 12 0).toNat (a.drop 13) = (parseR 0 (a.drop (13 + usedR recs))).map (recs ++ ·)) : (pgBytes recs mark = a → openR a = .ok (recs, mark)) ∧ (pgBytes recs mark ≠ a → openR a = .error 31) := by
  have hz : (a.drop (13 + usedR recs)).all (· == 0) = true → openR a = .ok (recs, mark) := fun h => by
    rw [parseR, if_pos h] at hp
    rw [openR_ok h1 h2 hp, hm]; simp
  refine ⟨fun e => hz ?_, fun hne => ?_⟩
  · rw [← e, pg_tail]; simp
  · by_cases h : (a.drop (13 + usedR recs)).all (· == 0) = true
    · exact absurd (pgBytes_openR (hz h)) hne
    · rw [parseR, if_neg h] at hp
      exact openR_31 h1 h2 hp

set_option maxHeartbeats 4000000 in
set_option maxRecDepth 100000 in
theorem Rc.open (B : Base) (a : List UInt8) (hl : a.length < 2 ^ 32) : Fn Tryd.prog B 19 #[.string (strOf a)] [] (ROpenPost a) := by
  refine Fn.enter1 73 Tryd.func19 rfl rfl (Nat.le_of_ble_eq_true rfl) (fun F => ?_)
  try simp only [List.cons_append, List.nil_append]
  refine T.seq ?_
  refine T.region ?_
  refine LW.e rfl (Ef.alloc [.slice none 0 0, .int .i64 0] (by unfold zeroB; kernel_rfl) ?_)
  intro g2
  refine LW.q rfl (Qt.assign rfl) ?_
  refine LW.done ?_
  refine T.seq ?_
  refine T.seq ?_
  refine T.region ?_
  refine LW.q rfl (Qt.move rfl) ?_
  first | refine LW.q rfl (Qt.lenSt (by kernel_rfl) rfl) ?_ | refine LW.q rfl (Qt.lenS (by kernel_rfl) rfl) ?_
  refine LW.q rfl (Qt.neq rfl rfl) ?_
  refine LW.done ?_
  refine T.condP rfl (fun hlen => ?_) (fun hlen => ?_)
  · skip
    refine T.seq ?_
    refine T.region ?_
    refine LW.q rfl (Qt.build [(0, 1), (1, 1)] [.slice none 0 0, .int .i64 0] [_, _] [] (by kernel_rfl) (by unfold zeroB; kernel_rfl) rfl rfl) ?_
    refine LW.e0 rfl (Ef.store [_, _] (by kernel_rfl) rfl rfl rfl rfl (by simp) ?_)
    try simp only [splice, List.length_cons, List.length_nil, List.drop_succ_cons, List.cons_append, List.take_succ_cons, List.take_zero, List.drop_zero, List.nil_append, List.append_nil]
    refine LW.q rfl (Qt.assign rfl) ?_
    refine LW.done ?_
    refine T.ret ?_
    exact ⟨.inl rfl, _, _, res [_, _] rfl ⟨rvA [_, _] (by kernel_rfl) rfl ⟨rfl, rfl, trivial⟩, rvT rfl, trivial⟩, ROpenPost.err (e := 10) (openR_10 (by omega)) rfl rfl, Sub.any⟩
  · skip
    have h1 : a.length = 256 := by omega
    refine T.skip ?_
    refine T.seq ?_
    refine T.seq ?_
    refine T.draw 8 ([]) (by kernel_rfl) (Nat.le_of_ble_eq_true rfl) (by kernel_rfl) ?_
    refine RW.q 0 rfl rfl (by kernel_rfl) Sub.any (Qt.move rfl) ?_
    refine RW.q 1 rfl rfl (by kernel_rfl) Sub.any (Qt.sliceS_sn 4 (by kernel_rfl) rfl rfl rfl (by omega)) ?_
    refine RW.q 5 rfl rfl (by kernel_rfl) Sub.any (Qt.move rfl) ?_
    refine RW.q 6 rfl rfl (by kernel_rfl) Sub.any (Qt.sliceS_ns 4 (by kernel_rfl) rfl rfl rfl (by omega)) ?_
    refine RW.one 2 (by kernel_rfl) ?_
    refine RO.eS rfl rfl (Ef.call (Rc.sum B (a.drop 4) (by simp; omega)) Tryd.func55 rfl rfl rfl ?_)
    rintro _ _ ⟨rfl, rfl⟩
    try simp only [List.cons_append, List.nil_append]
    refine ⟨Sub.any, ?_⟩
    refine RW.q 3 rfl rfl (by kernel_rfl) Sub.any (Qt.convI (by kernel_rfl) (by kernel_rfl) rfl (sumN_nat _)) ?_
    refine RW.one 4 (by kernel_rfl) ?_
    refine RO.eS rfl rfl (Ef.call (Rc.number B (sumN (a.drop 4)) 4 4 rfl (by omega)) Tryd.func54 rfl rfl rfl ?_)
    rintro _ _ ⟨rfl, rfl⟩
    try simp only [List.cons_append, List.nil_append]
    refine ⟨Sub.any, ?_⟩
    refine RW.q 7 rfl rfl (by kernel_rfl) Sub.any (Qt.neqS rfl rfl) ?_
    refine RW.done (by rfl) ?_
    simp only [List.drop_succ_cons, List.drop_zero, List.drop_nil]
    refine LW.done ?_
    refine T.condP rfl (fun hsum => ?_) (fun hsum => ?_)
    · skip
      refine T.seq ?_
      refine T.region ?_
      refine LW.q rfl (Qt.build [(0, 1), (1, 1)] [.slice none 0 0, .int .i64 0] [_, _] [] (by kernel_rfl) (by unfold zeroB; kernel_rfl) rfl rfl) ?_
      refine LW.e0 rfl (Ef.store [_, _] (by kernel_rfl) rfl rfl rfl rfl (by simp) ?_)
      try simp only [splice, List.length_cons, List.length_nil, List.drop_succ_cons, List.cons_append, List.take_succ_cons, List.take_zero, List.drop_zero, List.nil_append, List.append_nil]
      refine LW.q rfl (Qt.assign rfl) ?_
      refine LW.done ?_
      refine T.ret ?_
      exact ⟨.inl rfl, _, _, res [_, _] rfl ⟨rvA [_, _] (by kernel_rfl) rfl ⟨rfl, rfl, trivial⟩, rvT rfl, trivial⟩, ROpenPost.err (e := 30) (openR_30 h1 (fun h => hsum (by rw [← h]; have := be_get64 (l := a.take 4) (by simp; omega); rwa [show (a.take 4).length = 4 by simp [h1]] at this))) rfl rfl, Sub.any⟩
    · skip
      have h2 : get64 (a.take 4) = sumN (a.drop 4) := by have := Decidable.not_not.1 hsum; rw [← this, get64_be _ (by omega) (sumN_lt _)]
      obtain ⟨mark, hmark⟩ : ∃ mark, IntKind.i64.wrap ((get64 ((a.take 12).drop 4)).toNat : Int) = mark := ⟨_, rfl⟩
      have hgd : a.getD 12 0 = a[12]'(by omega) := by simp [List.getD, show (12 < a.length) by omega]
      obtain ⟨K, hK⟩ : ∃ K, (a[12]'(by omega)).toNat = K := ⟨_, rfl⟩
      have hK2 : K < 256 := by rw [← hK]; exact (a[12]'(by omega)).toNat_lt
      refine T.skip ?_
      refine T.seq ?_
      refine T.region ?_
      refine LW.q rfl (Qt.move rfl) ?_
      refine LW.q rfl (Qt.sliceS 4 12 ((a.take 12).drop 4) (by kernel_rfl) rfl rfl rfl rfl rfl (by omega) (by omega) rfl) ?_
      refine LW.e rfl (Ef.call (Rc.get B ((a.take 12).drop 4) (by simp; omega)) Tryd.func56 rfl rfl rfl ?_)
      rintro _ _ ⟨rfl, rfl⟩
      try simp only [List.cons_append, List.nil_append]
      refine LW.q rfl (Qt.convI (by kernel_rfl) (by kernel_rfl) rfl hmark) ?_
      refine LW.q rfl (Qt.build [(0, 1), (1, 1)] [.slice none 0 0, .int .i64 0] [_, _] [(1, _)] (by kernel_rfl) (by unfold zeroB; kernel_rfl) rfl rfl) ?_
      refine LW.e rfl (Ef.alloc [.slice none 0 0, .int .i64 0] (by unfold zeroB; kernel_rfl) ?_)
      intro g4
      refine LW.e0 rfl (Ef.store [_, _] (by kernel_rfl) rfl rfl rfl rfl (by simp) ?_)
      try simp only [splice, List.length_cons, List.length_nil, List.drop_succ_cons, List.cons_append, List.take_succ_cons, List.take_zero, List.drop_zero, List.nil_append, List.append_nil]
      refine LW.done ?_
      refine T.seq ?_
      refine T.region ?_
      refine LW.q rfl (Qt.assign rfl) ?_
      refine LW.done ?_
      refine T.seq ?_
      refine T.seq ?_
      refine T.region ?_
      refine LW.q rfl (Qt.assign rfl) ?_
      refine LW.done ?_
      refine T.block ?_
      first | refine T.conv (l' := strR none 0 0 [] :: _) (fun w ho => ho.row_nil _ _) ?_ | refine LW.conv (l' := strR none 0 0 [] :: _) (fun w ho => ho.row_nil _ _) ?_
      refine T.loop (fun mz fz lz => ∃ (f0 : Fr) (k at_ n : Nat) (recs : List (List UInt8)) (q : Option Addr) (c : Nat), (k ≤ K ∧ at_ = 13 + usedR recs ∧ at_ ≤ 256 ∧ n = recs.length ∧ (∀ x ∈ recs, x.length ≤ 200) ∧ parseR K (a.drop 13) = (parseR (K - k) (a.drop at_)).map (recs ++ ·)) ∧ mz = K - k ∧ fz = (upd (upd (upd (upd (upd f0 0 (.string (strOf a))) 2 (.pointer (some ⟨g2, 0, none⟩))) 4 (.pointer (some ⟨g4, 0, none⟩))) 5 (.int .i64 at_)) 6 (.int .i64 k)) ∧ lz = blk g2 [.slice none 0 0, .int .i64 0] 38 :: blk g4 [.slice q n c, .int .i64 mark] 38 :: strR q n c recs :: F) ?_ ?_
      · refine ⟨_, _, ⟨_, 0, 13, 0, [], none, 0, ⟨Nat.zero_le _, by simp [usedR], by omega, rfl, by simp, by simp⟩, rfl, (updS rfl (updS rfl (updS rfl (updS rfl (updS rfl rfl))))), rfl⟩, Sub.any⟩
      · skip
        rintro mz fz lz ⟨f0, k, at_, n, recs, q, c, ⟨hk, hat, hat2, hn, hle, hpar⟩, hmz, rfl, rfl⟩
        subst mz
        try simp only [List.cons_append, List.nil_append]
        have hlu := len_used recs
        refine T.seq ?_
        refine T.seq ?_
        refine T.region ?_
        refine LW.q rfl (Qt.move rfl) ?_
        refine LW.q rfl (Qt.move rfl) ?_
        refine LW.q rfl (Qt.indexS 12 (by kernel_rfl) rfl rfl rfl (by omega)) ?_
        refine LW.q rfl (Qt.convI (by kernel_rfl) (by kernel_rfl) rfl (wr64 (by omega) (by omega))) ?_
        refine LW.q rfl (Qt.lss rfl rfl) ?_
        refine LW.done ?_
        refine T.condP rfl (fun hlt => ?_) (fun hlt => ?_)
        · skip
          refine T.skip ?_
          refine T.seq ?_
          refine T.block ?_
          refine T.seq ?_
          refine T.seq ?_
          refine T.region ?_
          refine LW.q rfl (Qt.move rfl) ?_
          refine LW.q rfl (Qt.geq rfl rfl) ?_
          refine LW.done ?_
          refine T.condP rfl (fun hge => ?_) (fun hge => ?_)
          · skip
            refine T.seq ?_
            refine T.region ?_
            refine LW.q rfl (Qt.build [(0, 1), (1, 1)] [.slice none 0 0, .int .i64 0] [_, _] [] (by kernel_rfl) (by unfold zeroB; kernel_rfl) rfl rfl) ?_
            refine LW.e0 rfl (Ef.store [_, _] (by kernel_rfl) rfl rfl rfl rfl (by simp) ?_)
            try simp only [splice, List.length_cons, List.length_nil, List.drop_succ_cons, List.cons_append, List.take_succ_cons, List.take_zero, List.drop_zero, List.nil_append, List.append_nil]
            refine LW.q rfl (Qt.assign rfl) ?_
            refine LW.done ?_
            refine T.ret ?_
            exact ⟨.inl rfl, _, _, res [_, _] rfl ⟨rvA [_, _] (by kernel_rfl) rfl ⟨rfl, rfl, trivial⟩, rvT rfl, trivial⟩, ROpenPost.err (e := 31) (openR_31 h1 h2 (by rw [hgd, hK, hpar, show K - k = (K - (k + 1)) + 1 by omega, List.drop_of_length_le (by omega)]; rfl)) rfl rfl, Sub.any⟩
          · skip
            obtain ⟨x, hx⟩ : ∃ x, a[at_]'(by omega) = x := ⟨_, rfl⟩
            have hd : a.drop at_ = x :: a.drop (at_ + 1) := by rw [List.drop_eq_getElem_cons (by omega), hx]
            have hx2 := x.toNat_lt
            have hxa : (a[at_]'(by omega)).toNat = x.toNat := by rw [hx]
            have hdl : (a.drop (at_ + 1)).length = 255 - at_ := by rw [List.length_drop, h1]; omega
            refine T.skip ?_
            refine T.seq ?_
            refine T.region ?_
            refine LW.q rfl (Qt.move rfl) ?_
            refine LW.q rfl (Qt.move rfl) ?_
            refine LW.q rfl (Qt.indexS at_ (by kernel_rfl) rfl rfl rfl (by omega)) ?_
            refine LW.q rfl (Qt.convI (by kernel_rfl) (by kernel_rfl) rfl (wr64 (by omega) (by omega))) ?_
            refine LW.q rfl (Qt.assign rfl) ?_
            refine LW.done ?_
            refine T.seq ?_
            refine T.seq ?_
            refine T.region ?_
            refine LW.q rfl (Qt.move rfl) ?_
            refine LW.q rfl (Qt.gtr rfl rfl) ?_
            refine LW.q rfl (Qt.move rfl) ?_
            refine LW.split (t := 42) rfl (fun h200 => ?_) (fun h200 => ?_)
            · skip
              try replace h200 := of_decide_eq_true h200
              refine LW.s rfl ?_
              refine LW.s rfl ?_
              refine LW.s rfl ?_
              refine LW.s rfl ?_
              refine LW.s rfl ?_
              refine LW.q rfl (Qt.pick rfl rfl) ?_
              refine LW.done ?_
              first | refine T.condT rfl ?_ | refine T.condPT rfl (by omega) ?_ | refine T.condBT rfl (by omega) ?_
              refine T.seq ?_
              refine T.region ?_
              refine LW.q rfl (Qt.build [(0, 1), (1, 1)] [.slice none 0 0, .int .i64 0] [_, _] [] (by kernel_rfl) (by unfold zeroB; kernel_rfl) rfl rfl) ?_
              refine LW.e0 rfl (Ef.store [_, _] (by kernel_rfl) rfl rfl rfl rfl (by simp) ?_)
              try simp only [splice, List.length_cons, List.length_nil, List.drop_succ_cons, List.cons_append, List.take_succ_cons, List.take_zero, List.drop_zero, List.nil_append, List.append_nil]
              refine LW.q rfl (Qt.assign rfl) ?_
              refine LW.done ?_
              refine T.ret ?_
              exact ⟨.inl rfl, _, _, res [_, _] rfl ⟨rvA [_, _] (by kernel_rfl) rfl ⟨rfl, rfl, trivial⟩, rvT rfl, trivial⟩, ROpenPost.err (e := 31) (openR_31 h1 h2 (by rw [hgd, hK, hpar, show K - k = (K - (k + 1)) + 1 by omega, hd, parseR_no (.inl (by omega))]; rfl)) rfl rfl, Sub.any⟩
            · skip
              try replace h200 := of_decide_eq_false h200
              refine LW.q rfl (Qt.move rfl) ?_
              refine LW.q rfl (Qt.add rfl rfl (wr64 (by omega) (by omega))) ?_
              refine LW.q rfl (Qt.move rfl) ?_
              refine LW.q rfl (Qt.add rfl rfl (wr64 (by omega) (by omega))) ?_
              refine LW.q rfl (Qt.gtr rfl rfl) ?_
              refine LW.q rfl (Qt.pick rfl rfl) ?_
              refine LW.done ?_
              refine T.condP rfl (fun hbig => ?_) (fun hbig => ?_)
              · skip
                refine T.seq ?_
                refine T.region ?_
                refine LW.q rfl (Qt.build [(0, 1), (1, 1)] [.slice none 0 0, .int .i64 0] [_, _] [] (by kernel_rfl) (by unfold zeroB; kernel_rfl) rfl rfl) ?_
                refine LW.e0 rfl (Ef.store [_, _] (by kernel_rfl) rfl rfl rfl rfl (by simp) ?_)
                try simp only [splice, List.length_cons, List.length_nil, List.drop_succ_cons, List.cons_append, List.take_succ_cons, List.take_zero, List.drop_zero, List.nil_append, List.append_nil]
                refine LW.q rfl (Qt.assign rfl) ?_
                refine LW.done ?_
                refine T.ret ?_
                exact ⟨.inl rfl, _, _, res [_, _] rfl ⟨rvA [_, _] (by kernel_rfl) rfl ⟨rfl, rfl, trivial⟩, rvT rfl, trivial⟩, ROpenPost.err (e := 31) (openR_31 h1 h2 (by rw [hgd, hK, hpar, show K - k = (K - (k + 1)) + 1 by omega, hd, parseR_no (.inr (by omega))]; rfl)) rfl rfl, Sub.any⟩
              · skip
                obtain ⟨rb, hrb⟩ : ∃ rb, (a.take (at_ + 1 + x.toNat)).drop (at_ + 1) = rb := ⟨_, rfl⟩
                have hrl : rb.length = x.toNat := by rw [← hrb]; simp; omega
                have hrb2 : (a.drop (at_ + 1)).take x.toNat = rb := by rw [← hrb, List.drop_take]; congr 1; omega
                have hub : usedR (recs ++ [rb]) = usedR recs + (rb.length + 1) := by rw [usedR_append]; simp [usedR]
                refine T.skip ?_
                refine T.seq ?_
                refine T.drawBl 12 none (by kernel_rfl) (Nat.le_of_ble_eq_true rfl) (by kernel_rfl) ?_
                refine RW.q 0 rfl rfl (by kernel_rfl) Sub.any (Qt.fieldAddr0 (by kernel_rfl) rfl) ?_
                first | refine RW.q 1 rfl rfl (by kernel_rfl) Sub.any (Qt.load (by kernel_rfl) rfl rfl) ?_ | refine RW.q 1 rfl rfl (by kernel_rfl) Sub.any (Qt.load (by kernel_rfl) rfl (map_at _ _ _ (by omega))) ?_ | refine RW.q 1 rfl rfl (by kernel_rfl) Sub.any (Qt.load (by kernel_rfl) rfl (flat_cell0 _ _ _ (by intros; rfl) _ (by omega) (by rfl))) ?_ | refine RW.q 1 rfl rfl (by kernel_rfl) Sub.any (Qt.load (by kernel_rfl) rfl (flat_cell _ _ _ (by intros; rfl) _ _ (by omega) (by rfl))) ?_ | refine RW.q 1 rfl rfl (by kernel_rfl) Sub.any (Qt.load (by kernel_rfl) rfl (bytes_at _ _ (by omega))) ?_
                refine RW.q 2 rfl rfl (by kernel_rfl) Sub.any (Qt.move rfl) ?_
                refine RW.q 3 rfl rfl (by kernel_rfl) Sub.any (Qt.move rfl) ?_
                refine RW.q 4 rfl rfl (by kernel_rfl) Sub.any (Qt.add rfl rfl (wr64 (by omega) (by omega))) ?_
                refine RW.q 5 rfl rfl (by kernel_rfl) Sub.any (Qt.move rfl) ?_
                refine RW.q 6 rfl rfl (by kernel_rfl) Sub.any (Qt.add rfl rfl (wr64 (by omega) (by omega))) ?_
                refine RW.q 7 rfl rfl (by kernel_rfl) Sub.any (Qt.move rfl) ?_
                refine RW.q 8 rfl rfl (by kernel_rfl) Sub.any (Qt.add rfl rfl (wr64 (by omega) (by omega))) ?_
                refine RW.q 9 rfl rfl (by kernel_rfl) Sub.any (Qt.sliceS (at_ + 1) (at_ + 1 + x.toNat) rb (by kernel_rfl) rfl rfl rfl (by omega) (by omega) (by omega) (by omega) hrb) ?_
                refine RW.one 10 (by kernel_rfl) ?_
                refine RO.eS rfl rfl (Ef.one [_] (e := 9) (sz := 1) (by kernel_rfl) ⟨.string .empty, by kernel_rfl, rfl⟩ rfl rfl rfl (by omega) (by omega) ?_)
                intro g60
                refine ⟨Sub.any, ?_⟩
                refine RW.one 11 (by kernel_rfl) ?_
                refine RO.eS rfl rfl (Ef.append elemStr rfl rfl (SrcOf.blk (by kernel_rfl) rfl (by simp [Value.oneCell'])) (by unfold maxLen; omega) (by omega) ?_)
                rintro q2 c2 hq2
                try simp only [List.cons_append, List.nil_append]
                rw [show [Value.string (strOf rb)] = [strV rb] from rfl, map_snoc strV]
                refine ⟨Sub.any, ?_⟩
                refine RW.done (by rfl) ?_
                simp only [List.drop_succ_cons, List.drop_zero, List.drop_nil]
                refine LW.q rfl (Qt.fieldAddr0 (by kernel_rfl) rfl) ?_
                refine LW.e0 rfl (Ef.store1 (by kernel_rfl) rfl rfl rfl (by first | (simp; done) | (simp; omega)) ?_)
                try simp only [List.set_cons_zero, List.set_cons_succ]
                refine LW.done ?_
                refine T.region ?_
                refine LW.q rfl (Qt.move rfl) ?_
                refine LW.q rfl (Qt.move rfl) ?_
                refine LW.q rfl (Qt.add rfl rfl (wr64 (by omega) (by omega))) ?_
                refine LW.q rfl (Qt.add rfl rfl (wr64 (by omega) (by omega))) ?_
                refine LW.q rfl (Qt.assign rfl) ?_
                refine LW.done ?_
                refine T.region ?_
                refine LW.q rfl (Qt.move rfl) ?_
                refine LW.q rfl (Qt.add rfl rfl (wr64 (by omega) (by omega))) ?_
                refine LW.q rfl (Qt.assign rfl) ?_
                refine LW.done ?_
                refine ⟨_, ?_, _, ⟨_, k + 1, at_ + (1 + (a[at_]'(by omega)).toNat), n + 1, recs ++ [rb], q2, c2, ⟨by omega, by omega, by omega, by simp [hn], by intro y hy; rcases List.mem_append.1 hy with h | h; exact hle y h; simp at h; subst h; omega, by rw [hpar, show K - k = (K - (k + 1)) + 1 by omega, hd, parseR_cons (by omega) (by omega), hrb2, List.drop_drop, hxa, show at_ + 1 + x.toNat = at_ + (1 + x.toNat) by omega]; simp [Option.map_map, Function.comp_def]⟩, rfl, (updS rfl (updS rfl (updS rfl (updS rfl (updS rfl rfl))))), rfl⟩, Sub.any⟩
                first | omega | (simp; omega)
        · skip
          obtain rfl : k = K := by omega
          subst hn
          rw [Nat.sub_self, hat, ← hK, ← hgd] at hpar
          have hlast := last_test h1 h2 hmark hpar
          refine T.exit ?_
          refine T.seq ?_
          refine T.seq ?_
          refine T.region ?_
          first | refine LW.q rfl (Qt.loadAgg [_, _] (by kernel_rfl) rfl ⟨rfl, rfl, trivial⟩) ?_ | refine LW.q rfl (Qt.loadAgg [_, _] (by kernel_rfl) rfl (by exact rdl_flat _ _ _ (by intros; rfl) _ (by omega))) ?_
          refine LW.e rfl (Ef.call (Rc.bytes B q recs.length c recs mark rfl (by omega) hle) Tryd.func57 rfl rfl rfl ?_)
          rintro _ _ ⟨rfl, rfl⟩
          try simp only [List.cons_append, List.nil_append]
          refine LW.q rfl (Qt.move rfl) ?_
          refine LW.q rfl (Qt.neqS rfl rfl) ?_
          refine LW.done ?_
          refine T.condP rfl (fun hne => ?_) (fun hne => ?_)
          · skip
            refine T.seq ?_
            refine T.region ?_
            refine LW.q rfl (Qt.build [(0, 1), (1, 1)] [.slice none 0 0, .int .i64 0] [_, _] [] (by kernel_rfl) (by unfold zeroB; kernel_rfl) rfl rfl) ?_
            refine LW.e0 rfl (Ef.store [_, _] (by kernel_rfl) rfl rfl rfl rfl (by simp) ?_)
            try simp only [splice, List.length_cons, List.length_nil, List.drop_succ_cons, List.cons_append, List.take_succ_cons, List.take_zero, List.drop_zero, List.nil_append, List.append_nil]
            refine LW.q rfl (Qt.assign rfl) ?_
            refine LW.done ?_
            refine T.ret ?_
            exact ⟨.inl rfl, _, _, res [_, _] rfl ⟨rvA [_, _] (by kernel_rfl) rfl ⟨rfl, rfl, trivial⟩, rvT rfl, trivial⟩, ROpenPost.err (e := 31) (hlast.2 hne) rfl rfl, Sub.any⟩
          · skip
            refine T.skip ?_
            refine T.seq ?_
            refine T.region ?_
            first | refine LW.q rfl (Qt.loadAgg [_, _] (by kernel_rfl) rfl ⟨rfl, rfl, trivial⟩) ?_ | refine LW.q rfl (Qt.loadAgg [_, _] (by kernel_rfl) rfl (by exact rdl_flat _ _ _ (by intros; rfl) _ (by omega))) ?_
            refine LW.e0 rfl (Ef.store [_, _] (by kernel_rfl) rfl rfl rfl rfl (by simp) ?_)
            try simp only [splice, List.length_cons, List.length_nil, List.drop_succ_cons, List.cons_append, List.take_succ_cons, List.take_zero, List.drop_zero, List.nil_append, List.append_nil]
            refine LW.q rfl (Qt.assign rfl) ?_
            refine LW.done ?_
            refine T.ret ?_
            exact ⟨.inl rfl, _, _, res [_, _] rfl ⟨rvA [_, _] (by kernel_rfl) rfl ⟨rfl, rfl, trivial⟩, rvT rfl, trivial⟩, ROpenPost.ok (recs := recs) (mark := mark) (hlast.1 (Decidable.not_not.1 hne)) rfl rfl, Sub.any⟩
end Go.Proofs.YtjjhbpjbngdlnaaDoor
