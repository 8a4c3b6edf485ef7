/- The package page: Open. Conditions: that what is handed in can be read. -/
import Derived.Test.YtjjhbpjbngdlnaaDoorPgC
namespace Go.Proofs.YtjjhbpjbngdlnaaDoor
open Go.RowKit

/-- The records of the bytes behind the head. -/
def parseR : Nat → List UInt8 → Option (List (List UInt8))
  | 0, l => if l.all (· == 0) then some [] else none
  | _ + 1, [] => none
  | k + 1, x :: l => if 200 < x.toNat ∨ l.length < x.toNat then none else (parseR k (l.drop x.toNat)).map (l.take x.toNat :: ·)
def openR (b : List UInt8) : Except Int (List (List UInt8) × Int) :=
  if b.length ≠ 256 then .error 10
  else if get64 (b.take 4) ≠ sumN (b.drop 4) then .error 30
  else match parseR (b.getD 12 0).toNat (b.drop 13) with
    | none => .error 31
    | some recs => .ok (recs, IntKind.i64.wrap (get64 ((b.take 12).drop 4)).toNat)

/-- What Open leaves: the page, or its error. -/
def OpenPost (S : List Assn) (b : List UInt8) (v : Value) (l : List Assn) : Prop := match openR b with
  | .error e => v = .tuple #[.pointer none, .int .i64 e] ∧ l = S
  | .ok (recs, mark) => ∃ g, v = .tuple #[.pointer (some ⟨g, 0, none⟩), .int .i64 0] ∧ l = pgA g recs mark :: S
theorem OpenPost.err {S : List Assn} {b : List UInt8} {e : Int} {v : Value} {l : List Assn} (h : openR b = .error e) (hv : v = .tuple #[.pointer none, .int .i64 e]) (hl : l = S) : OpenPost S b v l := by
  unfold OpenPost; rw [h]; exact ⟨hv, hl⟩
theorem OpenPost.ok {S : List Assn} {b : List UInt8} {recs : List (List UInt8)} {mark : Int} {g : Nat} {v : Value} {l : List Assn} (h : openR b = .ok (recs, mark)) (hv : v = .tuple #[.pointer (some ⟨g, 0, none⟩), .int .i64 0]) (hl : l = pgA g recs mark :: S) : OpenPost S b v l := by
  unfold OpenPost; rw [h]; exact ⟨g, hv, hl⟩
theorem openR_31 {b : List UInt8} (h1 : b.length = 256) (h2 : get64 (b.take 4) = sumN (b.drop 4)) (h3 : parseR (b.getD 12 0).toNat (b.drop 13) = none) : openR b = .error 31 := by
  unfold openR; rw [if_neg (by omega), if_neg (by simp [h2]), h3]
theorem openR_ok {b : List UInt8} {recs : List (List UInt8)} (h1 : b.length = 256) (h2 : get64 (b.take 4) = sumN (b.drop 4)) (h3 : parseR (b.getD 12 0).toNat (b.drop 13) = some recs) : openR b = .ok (recs, IntKind.i64.wrap (get64 ((b.take 12).drop 4)).toNat) := by
  unfold openR; rw [if_neg (by omega), if_neg (by simp [h2]), h3]
/-- A part of readable bytes. -/
theorem RdV.part {B : Base} {S : List Assn} {a : Option Addr} {m c : Nat} {b : List UInt8} (hv : RdV B S (.slice a m c) (bytesV b)) (lo hi : Nat) (hl : lo ≤ hi) (hm : b.length = m) (hh : hi ≤ m) (hc : hi ≤ c) {z : Nat} (hz : hi - lo = z) : RdV B S (.slice (offA a c lo 1) z (c - lo)) (bytesV ((b.take hi).drop lo)) := by
  subst hz
  have := hv.sub lo hi (c - lo) hl (by simp; omega) (offA a c lo 1) (fun h g o e => by rw [e, offA_some (by omega), Nat.mul_one])
  rwa [show ((bytesV b).take hi).drop lo = bytesV ((b.take hi).drop lo) by simp [bytesV]] at this
theorem RdV.dropB {B : Base} {S : List Assn} {a : Option Addr} {m c : Nat} {b : List UInt8} (hv : RdV B S (.slice a m c) (bytesV b)) (lo : Nat) (hl : lo ≤ m) (hm : b.length = m) (hc : m ≤ c) : RdV B S (.slice (offA a c lo 1) (m - lo) (c - lo)) (bytesV (b.drop lo)) := by
  have := hv.part lo m hl hm (Nat.le_refl _) hc rfl
  rwa [List.take_of_length_le (by omega)] at this
instance (priority := low) (B : Base) (g : Nat) (S l : List Assn) (C : List Value) [k : Rd B g l C] : Rd B g (S ++ l) C := ⟨fun w H => k.rd w (H.map fun _ k => by
  obtain ⟨_, _, _, _, a, _, hm⟩ := Has.split k
  exact hm.mono a)⟩
theorem Has.app_imp {S l m : List Assn} {h : Piece} (f : ∀ k, Has l k → Has m k) (H : Has (S ++ l) h) : Has (S ++ m) h := by
  obtain ⟨_, _, d, a, b, e1, e2⟩ := Has.split H
  exact Has.join d a b e1 (f _ e2)
theorem Has.over {A : Assn} : ∀ {m r : List Assn} {h : Piece}, Has (m ++ A :: r) h → Has (A :: (m ++ r)) h
  | [], _, _, H => H
  | _ :: _, _, _, H => Has.swap (Has.cons_imp (fun _ k => Has.over k) H)
instance (priority := low) (A : Assn) (S l r : List Assn) [k : TakeA A l r] : TakeA A (S ++ l) (S ++ r) := ⟨fun _ H => Has.over (Has.app_imp k.take H)⟩
theorem parseR_cons {k : Nat} {x : UInt8} {l : List UInt8} (h1 : x.toNat ≤ 200) (h2 : x.toNat ≤ l.length) : parseR (k + 1) (x :: l) = (parseR k (l.drop x.toNat)).map (l.take x.toNat :: ·) := by
  rw [parseR, if_neg (by omega)]
theorem parseR_no {k : Nat} {x : UInt8} {l : List UInt8} (h : 200 < x.toNat ∨ l.length < x.toNat) : parseR (k + 1) (x :: l) = none := by
  rw [parseR, if_pos h]

set_option maxHeartbeats 4000000 in
set_option maxRecDepth 100000 in
theorem Pg.open (B : Base) (S : List Assn) (a : Option Addr) (m c : Nat) (b : List UInt8) (hv : RdV B S (.slice a m c) (bytesV b)) (hm : b.length = m) (hc : m ≤ c) (hb : m < 2 ^ 48) : Fn Tryd.prog B 15 #[.slice a m c] S (OpenPost S b) := by
  refine Fn.enter1 79 Tryd.func15 rfl rfl (Nat.le_of_ble_eq_true rfl) (fun F => ?_)
  try simp only [List.cons_append, List.nil_append]
  refine T.seq ?_
  refine T.region ?_
  refine LW.q rfl (Qt.assign rfl) ?_
  refine LW.q rfl (Qt.assign rfl) ?_
  refine LW.done ?_
  refine T.seq ?_
  refine T.seq ?_
  refine T.region ?_
  refine LW.q rfl (Qt.move rfl) ?_
  refine LW.q rfl (Qt.len (e := 5) (sz := 1) (by kernel_rfl) rfl) ?_
  refine LW.q rfl (Qt.neq rfl rfl) ?_
  refine LW.done ?_
  refine T.condP rfl (fun hlen => ?_) (fun hlen => ?_)
  · skip
    refine T.seq ?_
    refine T.region ?_
    refine LW.q rfl (Qt.assign rfl) ?_
    refine LW.q rfl (Qt.assign rfl) ?_
    refine LW.done ?_
    refine T.ret ?_
    exact ⟨.inl rfl, _, _, res [_, _] rfl ⟨rvT rfl, rvT rfl, trivial⟩, OpenPost.err (e := 10) (by unfold openR; rw [if_pos (by omega)]) rfl rfl, Sub.any⟩
  · skip
    obtain rfl : m = 256 := by omega
    refine T.skip ?_
    refine T.seq ?_
    refine T.seq ?_
    refine T.draw 9 ([]) (by kernel_rfl) (Nat.le_of_ble_eq_true rfl) (by kernel_rfl) ?_
    refine RW.q 0 rfl rfl (by kernel_rfl) Sub.any (Qt.move rfl) ?_
    refine RW.q 1 rfl rfl (by kernel_rfl) Sub.any (Qt.slice_nsn 4 (e := 5) (sz := 1) (by kernel_rfl) rfl rfl rfl (by omega)) ?_
    refine RW.q 3 rfl rfl (by kernel_rfl) Sub.any (Qt.move rfl) ?_
    refine RW.q 4 rfl rfl (by kernel_rfl) Sub.any (Qt.slice_snn 4 (e := 5) (sz := 1) (by kernel_rfl) rfl rfl rfl (by omega)) ?_
    refine RW.all [2, 5] (by kernel_rfl) (List.forall_mem_cons.2 ⟨?_, List.forall_mem_cons.2 ⟨?_, List.forall_mem_nil _⟩⟩)
    · skip
      refine RO.eS rfl rfl (Ef.call (Cd.get B S (.slice a 4 c) (b.take 4) (by have := hv.take 4 c (by simp; omega); rwa [show (bytesV b).take 4 = bytesV (b.take 4) by simp [bytesV]] at this) (by simp; omega)) Tryd.func49 rfl rfl rfl ?_)
      rintro _ S ⟨rfl, rfl⟩
      try simp only [List.cons_append, List.nil_append]
      refine ⟨Sub.any, ?_⟩
      refine RW.one 5 (by kernel_rfl) ?_
      refine RO.eS rfl rfl (Ef.one [_] (e := 22) (sz := 1) (by kernel_rfl) ⟨.slice none 0 0, by kernel_rfl, rfl⟩ rfl rfl rfl (by omega) (by omega) ?_)
      intro g15
      refine ⟨Sub.any, ?_⟩
      refine RW.one 6 (by kernel_rfl) ?_
      refine RO.eS rfl rfl (Ef.callL (Cd.sum B _ _ [b.drop 4] (PartsV.one ((hv.dropB 4 (by omega) hm (by omega)).mono (fun w ho => ho.map Sub.any))) (by simp) (by simp; omega)) Tryd.func50 rfl rfl rfl ?_)
      rintro _ _ ⟨rfl, rfl⟩
      try simp only [List.cons_append, List.nil_append]
      refine ⟨Sub.any, ?_⟩
      refine RW.q 7 rfl rfl (by kernel_rfl) Sub.any (Qt.convI (by kernel_rfl) (by kernel_rfl) rfl (sumN_nat _)) ?_
      refine RW.q 8 rfl rfl (by kernel_rfl) Sub.any (Qt.neq rfl rfl) ?_
      refine RW.done (by rfl) ?_
      simp only [List.drop_succ_cons, List.drop_zero, List.drop_nil]
      refine LW.done ?_
      refine T.condP rfl (fun hsum => ?_) (fun hsum => ?_)
      · skip
        refine T.seq ?_
        refine T.region ?_
        refine LW.q rfl (Qt.assign rfl) ?_
        refine LW.q rfl (Qt.assign rfl) ?_
        refine LW.done ?_
        refine T.ret ?_
        exact ⟨.inl rfl, _, _, res [_, _] rfl ⟨rvT rfl, rvT rfl, trivial⟩, OpenPost.err (e := 30) (by unfold openR; rw [if_neg (by omega), if_pos (by intro h; exact hsum (by rw [h]; simp))]) rfl rfl, Sub.any⟩
      · skip
        have hs2 : get64 (b.take 4) = sumN (b.drop 4) := by apply UInt64.toNat_inj.1; simp at hsum; omega
        obtain ⟨mark, hmark⟩ : ∃ mark, IntKind.i64.wrap ((get64 ((b.take 12).drop 4)).toNat : Int) = mark := ⟨_, rfl⟩
        obtain ⟨K, hK⟩ : ∃ K, (b[12]'(by omega)).toNat = K := ⟨_, rfl⟩
        have hK2 : K < 256 := by rw [← hK]; exact (b[12]'(by omega)).toNat_lt
        have hgd : b.getD 12 0 = b[12]'(by omega) := by simp [List.getD, show (12 < b.length) by omega]
        obtain ⟨ga, oa, rfl, hca⟩ := hv.at (by omega)
        refine T.skip ?_
        refine T.seq ?_
        refine T.region ?_
        refine LW.q rfl (Qt.move rfl) ?_
        refine LW.q rfl (Qt.slice_ssn 4 12 (e := 5) (sz := 1) (by kernel_rfl) rfl rfl rfl rfl rfl (by omega) (by omega)) ?_
        refine LW.e rfl (Ef.call (Cd.get B S (.slice (offA (some ⟨ga, oa, none⟩) c 4 1) 8 (c - 4)) ((b.take 12).drop 4) (hv.part 4 12 (by omega) hm (by omega) (by omega) rfl) (by simp; omega)) Tryd.func49 rfl rfl rfl ?_)
        rintro _ S ⟨rfl, rfl⟩
        try simp only [List.cons_append, List.nil_append]
        refine LW.q rfl (Qt.convI (by kernel_rfl) (by kernel_rfl) rfl hmark) ?_
        refine LW.q rfl (Qt.build [(0, 1), (1, 1)] [.slice none 0 0, .int .i64 0] [_, _] [(1, _)] (by kernel_rfl) (by unfold zeroB; kernel_rfl) rfl rfl) ?_
        refine LW.e rfl (Ef.box [_, _] rfl rfl ?_)
        intro g24
        refine LW.conv (fun w ho => ho.pgNew) ?_
        refine LW.q rfl (Qt.assign rfl) ?_
        refine LW.done ?_
        refine T.seq ?_
        refine T.region ?_
        refine LW.q rfl (Qt.move rfl) ?_
        refine LW.q rfl (Qt.slice_snn 13 (e := 5) (sz := 1) (by kernel_rfl) rfl rfl rfl (by omega)) ?_
        refine LW.q rfl (Qt.assign rfl) ?_
        refine LW.done ?_
        refine T.seq ?_
        refine T.seq ?_
        refine T.region ?_
        refine LW.q rfl (Qt.move rfl) ?_
        refine LW.q rfl (Qt.index 12 (e := 5) (sz := 1) (by kernel_rfl) rfl rfl rfl (by omega)) ?_
        refine LW.q rfl (Qt.loadW (v := .int .u8 K) (by kernel_rfl) rfl (fun w ho => by rw [hca 12 (by simp; omega) w ho.tl.drop, ← hK]; simp [bytesV])) ?_
        refine LW.q rfl (Qt.convI (by kernel_rfl) (by kernel_rfl) rfl (wr64 (by omega) (by omega))) ?_
        refine LW.q rfl (Qt.move rfl) ?_
        refine LW.done ?_
        refine T.block ?_
        refine T.loop (fun mz fz lz => ∃ (f0 : Fr) (k : Nat) (recs : List (List UInt8)) (m : Nat) (rest : List UInt8) (pr : Option Addr) (d : Nat), (k ≤ K ∧ rest.length = m ∧ m ≤ d ∧ usedR recs + m = 243 ∧ (∀ x ∈ recs, x.length ≤ 200) ∧ RdV B S (.slice pr m d) (bytesV rest) ∧ parseR K (b.drop 13) = (parseR (K - k) rest).map (recs ++ ·)) ∧ mz = K - k ∧ fz = (upd (upd (upd (upd f0 4 (.pointer (some ⟨g24, 0, none⟩))) 5 (.slice pr m d)) 30 (.int .i64 K)) 31 (.int .i64 k)) ∧ lz = pgA g24 recs mark :: (S ++ F)) ?_ ?_
        · refine ⟨_, _, ⟨_, 0, [], 243, b.drop 13, offA (some ⟨ga, oa, none⟩) c 13 1, c - 13, ⟨Nat.zero_le _, by simp; omega, by omega, rfl, by simp, hv.dropB 13 (by omega) hm (by omega), by simp⟩, rfl, (updS rfl (updS rfl (updS rfl (updS rfl rfl)))), rfl⟩, Sub.any⟩
        · skip
          rintro mz fz lz ⟨f0, k, recs, m, rest, pr, d, ⟨hk, hrl, hmd, hus, hlen2, hrd, hpar⟩, hmz, rfl, rfl⟩
          subst mz
          try simp only [List.cons_append, List.nil_append]
          refine T.seq ?_
          refine T.region ?_
          refine LW.q rfl (Qt.lss rfl rfl) ?_
          refine LW.done ?_
          refine T.seq ?_
          refine T.condP rfl (fun hlt => ?_) (fun hlt => ?_)
          · skip
            refine T.skip ?_
            refine T.seq ?_
            refine T.block ?_
            refine T.seq ?_
            refine T.seq ?_
            refine T.region ?_
            refine LW.q rfl (Qt.move rfl) ?_
            refine LW.q rfl (Qt.len (e := 5) (sz := 1) (by kernel_rfl) rfl) ?_
            refine LW.q rfl (Qt.eql rfl rfl) ?_
            refine LW.q rfl (Qt.move rfl) ?_
            refine LW.split (t := 36) rfl (fun h0 => ?_) (fun h0 => ?_)
            · skip
              try replace h0 := of_decide_eq_true h0
              obtain rfl : rest = [] := List.eq_nil_of_length_eq_zero (by omega)
              refine LW.s rfl ?_
              refine LW.s rfl ?_
              refine LW.s rfl ?_
              refine LW.s rfl ?_
              refine LW.s rfl ?_
              refine LW.q rfl (Qt.pick rfl rfl) ?_
              refine LW.q rfl (Qt.move rfl) ?_
              first | refine LW.gT (t := 43) rfl rfl ?_ | refine LW.gT (t := 43) rfl (decide_eq_true (by omega)) ?_ | refine LW.gT (t := 43) rfl (by omega) ?_
              refine LW.s rfl ?_
              refine LW.s rfl ?_
              refine LW.s rfl ?_
              refine LW.s rfl ?_
              refine LW.s rfl ?_
              refine LW.s rfl ?_
              refine LW.s rfl ?_
              refine LW.q rfl (Qt.pick rfl rfl) ?_
              refine LW.done ?_
              first | refine T.condT rfl ?_ | refine T.condPT rfl (by omega) ?_ | refine T.condBT rfl (by omega) ?_
              refine T.seq ?_
              refine T.region ?_
              refine LW.q rfl (Qt.assign rfl) ?_
              refine LW.q rfl (Qt.assign rfl) ?_
              refine LW.done ?_
              refine T.ret ?_
              exact ⟨.inl rfl, _, _, res [_, _] rfl ⟨rvT rfl, rvT rfl, trivial⟩, OpenPost.err (e := 31) (openR_31 hm hs2 (by rw [hgd, hK, hpar, show K - k = (K - (k + 1)) + 1 by omega]; rfl)) rfl rfl, Sub.any⟩
            · skip
              try replace h0 := of_decide_eq_false h0
              obtain ⟨gr, orr, rfl, hcr⟩ := hrd.at (by omega)
              obtain ⟨x, rest, rfl⟩ : ∃ x r, rest = x :: r := by cases rest with | nil => simp at hrl; omega | cons x r => exact ⟨x, r, rfl⟩
              obtain ⟨xn, hxn⟩ : ∃ xn, x.toNat = xn := ⟨_, rfl⟩
              have hx2 : xn < 256 := by rw [← hxn]; exact x.toNat_lt
              have hrl2 : rest.length + 1 = m := by simpa using hrl
              have hcx : ∀ w, Own B w S → w.cell? ⟨gr, orr + 0 * 1, none⟩ = some (.int .u8 xn) := fun w ho => by rw [hcr 0 (by simp) w ho, ← hxn]; rfl
              refine LW.q rfl (Qt.move rfl) ?_
              refine LW.q rfl (Qt.index 0 (e := 5) (sz := 1) (by kernel_rfl) rfl rfl rfl (by omega)) ?_
              refine LW.q rfl (Qt.loadW (v := .int .u8 xn) (by kernel_rfl) rfl (fun w ho => hcx w ho.tl.drop)) ?_
              refine LW.q rfl (Qt.convI (by kernel_rfl) (by kernel_rfl) rfl (wr64 (by omega) (by omega))) ?_
              refine LW.q rfl (Qt.gtr rfl rfl) ?_
              refine LW.q rfl (Qt.pick rfl rfl) ?_
              refine LW.q rfl (Qt.move rfl) ?_
              refine LW.split (t := 43) rfl (fun h1 => ?_) (fun h1 => ?_)
              · skip
                try replace h1 := of_decide_eq_true h1
                refine LW.s rfl ?_
                refine LW.s rfl ?_
                refine LW.s rfl ?_
                refine LW.s rfl ?_
                refine LW.s rfl ?_
                refine LW.s rfl ?_
                refine LW.s rfl ?_
                refine LW.q rfl (Qt.pick rfl rfl) ?_
                refine LW.done ?_
                first | refine T.condT rfl ?_ | refine T.condPT rfl (by omega) ?_ | refine T.condBT rfl (by omega) ?_
                refine T.seq ?_
                refine T.region ?_
                refine LW.q rfl (Qt.assign rfl) ?_
                refine LW.q rfl (Qt.assign rfl) ?_
                refine LW.done ?_
                refine T.ret ?_
                exact ⟨.inl rfl, _, _, res [_, _] rfl ⟨rvT rfl, rvT rfl, trivial⟩, OpenPost.err (e := 31) (openR_31 hm hs2 (by rw [hgd, hK, hpar, show K - k = (K - (k + 1)) + 1 by omega, parseR_no (.inl (by omega))]; rfl)) rfl rfl, Sub.any⟩
              · skip
                try replace h1 := of_decide_eq_false h1
                refine LW.q rfl (Qt.move rfl) ?_
                refine LW.q rfl (Qt.index 0 (e := 5) (sz := 1) (by kernel_rfl) rfl rfl rfl (by omega)) ?_
                refine LW.q rfl (Qt.loadW (v := .int .u8 xn) (by kernel_rfl) rfl (fun w ho => hcx w ho.tl.drop)) ?_
                refine LW.q rfl (Qt.convI (by kernel_rfl) (by kernel_rfl) rfl (wr64 (by omega) (by omega))) ?_
                refine LW.q rfl (Qt.move rfl) ?_
                refine LW.q rfl (Qt.len (e := 5) (sz := 1) (by kernel_rfl) rfl) ?_
                refine LW.q rfl (Qt.geq rfl rfl) ?_
                refine LW.q rfl (Qt.pick rfl rfl) ?_
                refine LW.done ?_
                refine T.condP rfl (fun h2 => ?_) (fun h2 => ?_)
                · skip
                  refine T.seq ?_
                  refine T.region ?_
                  refine LW.q rfl (Qt.assign rfl) ?_
                  refine LW.q rfl (Qt.assign rfl) ?_
                  refine LW.done ?_
                  refine T.ret ?_
                  exact ⟨.inl rfl, _, _, res [_, _] rfl ⟨rvT rfl, rvT rfl, trivial⟩, OpenPost.err (e := 31) (openR_31 hm hs2 (by rw [hgd, hK, hpar, show K - k = (K - (k + 1)) + 1 by omega, parseR_no (.inr (by omega))]; rfl)) rfl rfl, Sub.any⟩
                · skip
                  obtain ⟨rb, r2, rfl, rfl⟩ : ∃ rb r2, rest = rb ++ r2 ∧ xn = rb.length := ⟨rest.take xn, rest.drop xn, by simp, by simp; omega⟩
                  have hrec : RdV B S (.slice (offA (some ⟨gr, orr, none⟩) d 1 1) (rb.length + 1 - 1) (d - 1)) (bytesV rb) := by have := hrd.part 1 (rb.length + 1) (by omega) hrl (by omega) (by omega) rfl; rwa [show ((x :: (rb ++ r2)).take (rb.length + 1)).drop 1 = rb by simp] at this
                  refine T.openPg g24 recs mark (fun p cc R hR hok hro hlen hp => ?_)
                  subst hR
                  have hub : usedR (R.map Rec.b ++ [rb]) = usedR (R.map Rec.b) + rb.length + 1 := by rw [usedR_append]; simp [usedR]; omega
                  refine T.skip ?_
                  refine T.seq ?_
                  refine T.region ?_
                  refine LW.q rfl (Qt.move rfl) ?_
                  refine LW.q rfl (Qt.index 0 (e := 5) (sz := 1) (by kernel_rfl) rfl rfl rfl (by omega)) ?_
                  refine LW.q rfl (Qt.loadW (v := .int .u8 rb.length) (by kernel_rfl) rfl (fun w ho => hcx w ho.tl.tl.tl.drop)) ?_
                  refine LW.q rfl (Qt.convI (by kernel_rfl) (by kernel_rfl) rfl (wr64 (by omega) (by omega))) ?_
                  refine LW.q rfl (Qt.add rfl rfl (wr64 (by omega) (by omega))) ?_
                  refine LW.q rfl (Qt.assign rfl) ?_
                  refine LW.done ?_
                  refine T.seq ?_
                  refine T.drawBl 11 none (by kernel_rfl) (Nat.le_of_ble_eq_true rfl) (by kernel_rfl) ?_
                  refine RW.q 0 rfl rfl (by kernel_rfl) Sub.any (Qt.move rfl) ?_
                  refine RW.q 1 rfl rfl (by kernel_rfl) Sub.any (Qt.move rfl) ?_
                  refine RW.q 2 rfl rfl (by kernel_rfl) Sub.any (Qt.nilCheck rfl) ?_
                  refine RW.q 3 rfl rfl (by kernel_rfl) Sub.any (Qt.fieldAddr0 (by kernel_rfl) rfl) ?_
                  first | refine RW.q 4 rfl rfl (by kernel_rfl) Sub.any (Qt.load (by kernel_rfl) rfl rfl) ?_ | refine RW.q 4 rfl rfl (by kernel_rfl) Sub.any (Qt.load (by kernel_rfl) rfl (map_at _ _ _ (by omega))) ?_ | refine RW.q 4 rfl rfl (by kernel_rfl) Sub.any (Qt.load (by kernel_rfl) rfl (flat_cell0 _ _ _ (by intros; rfl) _ (by omega) (by rfl))) ?_ | refine RW.q 4 rfl rfl (by kernel_rfl) Sub.any (Qt.load (by kernel_rfl) rfl (flat_cell _ _ _ (by intros; rfl) _ _ (by omega) (by rfl))) ?_ | refine RW.q 4 rfl rfl (by kernel_rfl) Sub.any (Qt.load (by kernel_rfl) rfl (bytes_at _ _ (by omega))) ?_
                  refine RW.q 5 rfl rfl (by kernel_rfl) Sub.any (Qt.move rfl) ?_
                  refine RW.q 6 rfl rfl (by kernel_rfl) Sub.any (Qt.move rfl) ?_
                  refine RW.q 7 rfl rfl (by kernel_rfl) Sub.any (Qt.slice_ssn 1 (rb.length + 1) (e := 5) (sz := 1) (by kernel_rfl) rfl rfl rfl rfl rfl (by omega) (by omega)) ?_
                  refine RW.one 8 (by kernel_rfl) ?_
                  refine RO.eS rfl rfl (Ef.callL (Cd.clone B _ _ rb rb.length rfl (hrec.mono (fun w ho => ho.map Sub.any)) (by omega)) Tryd.func48 rfl rfl rfl ?_)
                  rintro _ _ ⟨p1, c1, rfl, rfl⟩
                  try simp only [List.cons_append, List.nil_append]
                  refine ⟨Sub.any, ?_⟩
                  refine RW.one 9 (by kernel_rfl) ?_
                  refine RO.eS rfl rfl (Ef.one [_] (e := 22) (sz := 1) (by kernel_rfl) ⟨.slice none 0 0, by kernel_rfl, rfl⟩ rfl rfl rfl (by omega) (by omega) ?_)
                  intro g66
                  refine ⟨Sub.any, ?_⟩
                  refine RW.one 10 (by kernel_rfl) ?_
                  refine RO.eS rfl rfl (Ef.append Pg.elemP rfl rfl (SrcOf.blk (by kernel_rfl) rfl (by simp [Value.oneCell'])) (by unfold maxLen; omega) (by omega) ?_)
                  rintro p2 c2 hp2
                  try simp only [List.cons_append, List.nil_append]
                  rw [show [Value.slice p1 rb.length c1] = [recV ⟨p1, c1, rb⟩] from rfl, map_snoc recV]
                  refine ⟨Sub.any, ?_⟩
                  refine RW.done (by rfl) ?_
                  simp only [List.drop_succ_cons, List.drop_zero, List.drop_nil]
                  refine LW.q rfl (Qt.nilCheck rfl) ?_
                  refine LW.q rfl (Qt.fieldAddr0 (by kernel_rfl) rfl) ?_
                  refine LW.e0 rfl (Ef.store1 (by kernel_rfl) rfl rfl rfl (by first | (simp; done) | (simp; omega)) ?_)
                  try simp only [List.set_cons_zero, List.set_cons_succ]
                  refine LW.done ?_
                  refine T.region ?_
                  refine LW.q rfl (Qt.move rfl) ?_
                  refine LW.q rfl (Qt.move rfl) ?_
                  refine LW.q rfl (Qt.slice_snn (rb.length + 1) (e := 5) (sz := 1) (by kernel_rfl) rfl rfl rfl (by omega)) ?_
                  refine LW.q rfl (Qt.assign rfl) ?_
                  refine LW.done ?_
                  refine T.region ?_
                  refine LW.q rfl (Qt.add rfl rfl (wr64 (by omega) (by omega))) ?_
                  refine LW.q rfl (Qt.move rfl) ?_
                  refine LW.done ?_
                  refine ⟨_, ?_, _, ⟨_, k + 1, R.map Rec.b ++ [rb], m - (rb.length + 1), r2, _, _, ⟨by omega, by simp at hrl2; omega, by omega, by omega, by intro y hy; rcases List.mem_append.1 hy with h | h; exact hok.len y h; simp at h; subst h; omega, by have := hrd.dropB (rb.length + 1) (by omega) hrl (by omega); rwa [show (x :: (rb ++ r2)).drop (rb.length + 1) = r2 by simp] at this, by rw [hpar, show K - k = (K - (k + 1)) + 1 by omega, parseR_cons (by omega) (by simp; omega), hxn]; simp [Option.map_map, Function.comp_def]⟩, rfl, (updS rfl (updS rfl (updS rfl (updS rfl rfl)))), rfl⟩, Sub.pgAdd g24 p2 (R.length + 1) c2 R p1 c1 rb mark rfl (R.map Rec.b ++ [rb]) (by simp) ⟨by omega, by intro y hy; rcases List.mem_append.1 hy with h | h; exact hok.len y h; simp at h; subst h; omega⟩⟩
                  first | omega | (simp; omega)
          · skip
            obtain rfl : k = K := by omega
            refine T.exit ?_
            refine T.seq ?_
            refine T.seq ?_
            refine T.region ?_
            refine LW.q rfl (Qt.move rfl) ?_
            refine LW.e rfl (Ef.call (Tr.trim B S pr m d rest hrd hrl hmd (by omega)) Tryd.func51 rfl rfl rfl ?_)
            rintro _ S ⟨p3, m3, c3, rfl, hz, rfl⟩
            try simp only [List.cons_append, List.nil_append]
            refine LW.q rfl (Qt.len (e := 5) (sz := 1) (by kernel_rfl) rfl) ?_
            refine LW.q rfl (Qt.gtr rfl rfl) ?_
            refine LW.done ?_
            refine T.condP rfl (fun hz2 => ?_) (fun hz2 => ?_)
            · skip
              refine T.seq ?_
              refine T.region ?_
              refine LW.q rfl (Qt.assign rfl) ?_
              refine LW.q rfl (Qt.assign rfl) ?_
              refine LW.done ?_
              refine T.ret ?_
              exact ⟨.inl rfl, _, _, res [_, _] rfl ⟨rvT rfl, rvT rfl, trivial⟩, OpenPost.err (e := 31) (openR_31 hm hs2 (by rw [hgd, hK, hpar, Nat.sub_self, parseR, if_neg (by intro h; have := hz.2 (by simpa using h); omega)]; rfl)) rfl rfl, Sub.any⟩
            · skip
              refine T.skip ?_
              refine T.seq ?_
              refine T.region ?_
              refine LW.q rfl (Qt.move rfl) ?_
              refine LW.q rfl (Qt.assign rfl) ?_
              refine LW.q rfl (Qt.assign rfl) ?_
              refine LW.done ?_
              refine T.ret ?_
              exact ⟨.inl rfl, _, _, res [_, _] rfl ⟨rvT rfl, rvT rfl, trivial⟩, OpenPost.ok (recs := recs) (mark := mark) (by rw [openR_ok (recs := recs) hm hs2 (by rw [hgd, hK, hpar, Nat.sub_self, parseR, if_pos (by simpa using hz.1 (by omega))]; simp), hmark]) rfl rfl, Sub.any⟩
    · skip
      refine RO.eS rfl rfl (Ef.one [_] (e := 22) (sz := 1) (by kernel_rfl) ⟨.slice none 0 0, by kernel_rfl, rfl⟩ rfl rfl rfl (by omega) (by omega) ?_)
      intro g15
      refine ⟨Sub.any, ?_⟩
      refine RW.one 2 (by kernel_rfl) ?_
      refine RO.eS rfl rfl (Ef.call (Cd.get B S (.slice a 4 c) (b.take 4) (by have := hv.take 4 c (by simp; omega); rwa [show (bytesV b).take 4 = bytesV (b.take 4) by simp [bytesV]] at this) (by simp; omega)) Tryd.func49 rfl rfl rfl ?_)
      rintro _ S ⟨rfl, rfl⟩
      try simp only [List.cons_append, List.nil_append]
      refine ⟨Sub.any, ?_⟩
      refine RW.one 6 (by kernel_rfl) ?_
      refine RO.eS rfl rfl (Ef.callL (Cd.sum B _ _ [b.drop 4] (PartsV.one ((hv.dropB 4 (by omega) hm (by omega)).mono (fun w ho => ho.map Sub.any))) (by simp) (by simp; omega)) Tryd.func50 rfl rfl rfl ?_)
      rintro _ _ ⟨rfl, rfl⟩
      try simp only [List.cons_append, List.nil_append]
      refine ⟨Sub.any, ?_⟩
      refine RW.q 7 rfl rfl (by kernel_rfl) Sub.any (Qt.convI (by kernel_rfl) (by kernel_rfl) rfl (sumN_nat _)) ?_
      refine RW.q 8 rfl rfl (by kernel_rfl) Sub.any (Qt.neq rfl rfl) ?_
      refine RW.done (by rfl) ?_
      simp only [List.drop_succ_cons, List.drop_zero, List.drop_nil]
      refine LW.done ?_
      refine T.condP rfl (fun hsum => ?_) (fun hsum => ?_)
      · skip
        refine T.seq ?_
        refine T.region ?_
        refine LW.q rfl (Qt.assign rfl) ?_
        refine LW.q rfl (Qt.assign rfl) ?_
        refine LW.done ?_
        refine T.ret ?_
        exact ⟨.inl rfl, _, _, res [_, _] rfl ⟨rvT rfl, rvT rfl, trivial⟩, OpenPost.err (e := 30) (by unfold openR; rw [if_neg (by omega), if_pos (by intro h; exact hsum (by rw [h]; simp))]) rfl rfl, Sub.any⟩
      · skip
        have hs2 : get64 (b.take 4) = sumN (b.drop 4) := by apply UInt64.toNat_inj.1; simp at hsum; omega
        obtain ⟨mark, hmark⟩ : ∃ mark, IntKind.i64.wrap ((get64 ((b.take 12).drop 4)).toNat : Int) = mark := ⟨_, rfl⟩
        obtain ⟨K, hK⟩ : ∃ K, (b[12]'(by omega)).toNat = K := ⟨_, rfl⟩
        have hK2 : K < 256 := by rw [← hK]; exact (b[12]'(by omega)).toNat_lt
        have hgd : b.getD 12 0 = b[12]'(by omega) := by simp [List.getD, show (12 < b.length) by omega]
        obtain ⟨ga, oa, rfl, hca⟩ := hv.at (by omega)
        refine T.skip ?_
        refine T.seq ?_
        refine T.region ?_
        refine LW.q rfl (Qt.move rfl) ?_
        refine LW.q rfl (Qt.slice_ssn 4 12 (e := 5) (sz := 1) (by kernel_rfl) rfl rfl rfl rfl rfl (by omega) (by omega)) ?_
        refine LW.e rfl (Ef.call (Cd.get B S (.slice (offA (some ⟨ga, oa, none⟩) c 4 1) 8 (c - 4)) ((b.take 12).drop 4) (hv.part 4 12 (by omega) hm (by omega) (by omega) rfl) (by simp; omega)) Tryd.func49 rfl rfl rfl ?_)
        rintro _ S ⟨rfl, rfl⟩
        try simp only [List.cons_append, List.nil_append]
        refine LW.q rfl (Qt.convI (by kernel_rfl) (by kernel_rfl) rfl hmark) ?_
        refine LW.q rfl (Qt.build [(0, 1), (1, 1)] [.slice none 0 0, .int .i64 0] [_, _] [(1, _)] (by kernel_rfl) (by unfold zeroB; kernel_rfl) rfl rfl) ?_
        refine LW.e rfl (Ef.box [_, _] rfl rfl ?_)
        intro g24
        refine LW.conv (fun w ho => ho.pgNew) ?_
        refine LW.q rfl (Qt.assign rfl) ?_
        refine LW.done ?_
        refine T.seq ?_
        refine T.region ?_
        refine LW.q rfl (Qt.move rfl) ?_
        refine LW.q rfl (Qt.slice_snn 13 (e := 5) (sz := 1) (by kernel_rfl) rfl rfl rfl (by omega)) ?_
        refine LW.q rfl (Qt.assign rfl) ?_
        refine LW.done ?_
        refine T.seq ?_
        refine T.seq ?_
        refine T.region ?_
        refine LW.q rfl (Qt.move rfl) ?_
        refine LW.q rfl (Qt.index 12 (e := 5) (sz := 1) (by kernel_rfl) rfl rfl rfl (by omega)) ?_
        refine LW.q rfl (Qt.loadW (v := .int .u8 K) (by kernel_rfl) rfl (fun w ho => by rw [hca 12 (by simp; omega) w ho.tl.drop, ← hK]; simp [bytesV])) ?_
        refine LW.q rfl (Qt.convI (by kernel_rfl) (by kernel_rfl) rfl (wr64 (by omega) (by omega))) ?_
        refine LW.q rfl (Qt.move rfl) ?_
        refine LW.done ?_
        refine T.block ?_
        refine T.loop (fun mz fz lz => ∃ (f0 : Fr) (k : Nat) (recs : List (List UInt8)) (m : Nat) (rest : List UInt8) (pr : Option Addr) (d : Nat), (k ≤ K ∧ rest.length = m ∧ m ≤ d ∧ usedR recs + m = 243 ∧ (∀ x ∈ recs, x.length ≤ 200) ∧ RdV B S (.slice pr m d) (bytesV rest) ∧ parseR K (b.drop 13) = (parseR (K - k) rest).map (recs ++ ·)) ∧ mz = K - k ∧ fz = (upd (upd (upd (upd f0 4 (.pointer (some ⟨g24, 0, none⟩))) 5 (.slice pr m d)) 30 (.int .i64 K)) 31 (.int .i64 k)) ∧ lz = pgA g24 recs mark :: (S ++ F)) ?_ ?_
        · refine ⟨_, _, ⟨_, 0, [], 243, b.drop 13, offA (some ⟨ga, oa, none⟩) c 13 1, c - 13, ⟨Nat.zero_le _, by simp; omega, by omega, rfl, by simp, hv.dropB 13 (by omega) hm (by omega), by simp⟩, rfl, (updS rfl (updS rfl (updS rfl (updS rfl rfl)))), rfl⟩, Sub.any⟩
        · skip
          rintro mz fz lz ⟨f0, k, recs, m, rest, pr, d, ⟨hk, hrl, hmd, hus, hlen2, hrd, hpar⟩, hmz, rfl, rfl⟩
          subst mz
          try simp only [List.cons_append, List.nil_append]
          refine T.seq ?_
          refine T.region ?_
          refine LW.q rfl (Qt.lss rfl rfl) ?_
          refine LW.done ?_
          refine T.seq ?_
          refine T.condP rfl (fun hlt => ?_) (fun hlt => ?_)
          · skip
            refine T.skip ?_
            refine T.seq ?_
            refine T.block ?_
            refine T.seq ?_
            refine T.seq ?_
            refine T.region ?_
            refine LW.q rfl (Qt.move rfl) ?_
            refine LW.q rfl (Qt.len (e := 5) (sz := 1) (by kernel_rfl) rfl) ?_
            refine LW.q rfl (Qt.eql rfl rfl) ?_
            refine LW.q rfl (Qt.move rfl) ?_
            refine LW.split (t := 36) rfl (fun h0 => ?_) (fun h0 => ?_)
            · skip
              try replace h0 := of_decide_eq_true h0
              obtain rfl : rest = [] := List.eq_nil_of_length_eq_zero (by omega)
              refine LW.s rfl ?_
              refine LW.s rfl ?_
              refine LW.s rfl ?_
              refine LW.s rfl ?_
              refine LW.s rfl ?_
              refine LW.q rfl (Qt.pick rfl rfl) ?_
              refine LW.q rfl (Qt.move rfl) ?_
              first | refine LW.gT (t := 43) rfl rfl ?_ | refine LW.gT (t := 43) rfl (decide_eq_true (by omega)) ?_ | refine LW.gT (t := 43) rfl (by omega) ?_
              refine LW.s rfl ?_
              refine LW.s rfl ?_
              refine LW.s rfl ?_
              refine LW.s rfl ?_
              refine LW.s rfl ?_
              refine LW.s rfl ?_
              refine LW.s rfl ?_
              refine LW.q rfl (Qt.pick rfl rfl) ?_
              refine LW.done ?_
              first | refine T.condT rfl ?_ | refine T.condPT rfl (by omega) ?_ | refine T.condBT rfl (by omega) ?_
              refine T.seq ?_
              refine T.region ?_
              refine LW.q rfl (Qt.assign rfl) ?_
              refine LW.q rfl (Qt.assign rfl) ?_
              refine LW.done ?_
              refine T.ret ?_
              exact ⟨.inl rfl, _, _, res [_, _] rfl ⟨rvT rfl, rvT rfl, trivial⟩, OpenPost.err (e := 31) (openR_31 hm hs2 (by rw [hgd, hK, hpar, show K - k = (K - (k + 1)) + 1 by omega]; rfl)) rfl rfl, Sub.any⟩
            · skip
              try replace h0 := of_decide_eq_false h0
              obtain ⟨gr, orr, rfl, hcr⟩ := hrd.at (by omega)
              obtain ⟨x, rest, rfl⟩ : ∃ x r, rest = x :: r := by cases rest with | nil => simp at hrl; omega | cons x r => exact ⟨x, r, rfl⟩
              obtain ⟨xn, hxn⟩ : ∃ xn, x.toNat = xn := ⟨_, rfl⟩
              have hx2 : xn < 256 := by rw [← hxn]; exact x.toNat_lt
              have hrl2 : rest.length + 1 = m := by simpa using hrl
              have hcx : ∀ w, Own B w S → w.cell? ⟨gr, orr + 0 * 1, none⟩ = some (.int .u8 xn) := fun w ho => by rw [hcr 0 (by simp) w ho, ← hxn]; rfl
              refine LW.q rfl (Qt.move rfl) ?_
              refine LW.q rfl (Qt.index 0 (e := 5) (sz := 1) (by kernel_rfl) rfl rfl rfl (by omega)) ?_
              refine LW.q rfl (Qt.loadW (v := .int .u8 xn) (by kernel_rfl) rfl (fun w ho => hcx w ho.tl.drop)) ?_
              refine LW.q rfl (Qt.convI (by kernel_rfl) (by kernel_rfl) rfl (wr64 (by omega) (by omega))) ?_
              refine LW.q rfl (Qt.gtr rfl rfl) ?_
              refine LW.q rfl (Qt.pick rfl rfl) ?_
              refine LW.q rfl (Qt.move rfl) ?_
              refine LW.split (t := 43) rfl (fun h1 => ?_) (fun h1 => ?_)
              · skip
                try replace h1 := of_decide_eq_true h1
                refine LW.s rfl ?_
                refine LW.s rfl ?_
                refine LW.s rfl ?_
                refine LW.s rfl ?_
                refine LW.s rfl ?_
                refine LW.s rfl ?_
                refine LW.s rfl ?_
                refine LW.q rfl (Qt.pick rfl rfl) ?_
                refine LW.done ?_
                first | refine T.condT rfl ?_ | refine T.condPT rfl (by omega) ?_ | refine T.condBT rfl (by omega) ?_
                refine T.seq ?_
                refine T.region ?_
                refine LW.q rfl (Qt.assign rfl) ?_
                refine LW.q rfl (Qt.assign rfl) ?_
                refine LW.done ?_
                refine T.ret ?_
                exact ⟨.inl rfl, _, _, res [_, _] rfl ⟨rvT rfl, rvT rfl, trivial⟩, OpenPost.err (e := 31) (openR_31 hm hs2 (by rw [hgd, hK, hpar, show K - k = (K - (k + 1)) + 1 by omega, parseR_no (.inl (by omega))]; rfl)) rfl rfl, Sub.any⟩
              · skip
                try replace h1 := of_decide_eq_false h1
                refine LW.q rfl (Qt.move rfl) ?_
                refine LW.q rfl (Qt.index 0 (e := 5) (sz := 1) (by kernel_rfl) rfl rfl rfl (by omega)) ?_
                refine LW.q rfl (Qt.loadW (v := .int .u8 xn) (by kernel_rfl) rfl (fun w ho => hcx w ho.tl.drop)) ?_
                refine LW.q rfl (Qt.convI (by kernel_rfl) (by kernel_rfl) rfl (wr64 (by omega) (by omega))) ?_
                refine LW.q rfl (Qt.move rfl) ?_
                refine LW.q rfl (Qt.len (e := 5) (sz := 1) (by kernel_rfl) rfl) ?_
                refine LW.q rfl (Qt.geq rfl rfl) ?_
                refine LW.q rfl (Qt.pick rfl rfl) ?_
                refine LW.done ?_
                refine T.condP rfl (fun h2 => ?_) (fun h2 => ?_)
                · skip
                  refine T.seq ?_
                  refine T.region ?_
                  refine LW.q rfl (Qt.assign rfl) ?_
                  refine LW.q rfl (Qt.assign rfl) ?_
                  refine LW.done ?_
                  refine T.ret ?_
                  exact ⟨.inl rfl, _, _, res [_, _] rfl ⟨rvT rfl, rvT rfl, trivial⟩, OpenPost.err (e := 31) (openR_31 hm hs2 (by rw [hgd, hK, hpar, show K - k = (K - (k + 1)) + 1 by omega, parseR_no (.inr (by omega))]; rfl)) rfl rfl, Sub.any⟩
                · skip
                  obtain ⟨rb, r2, rfl, rfl⟩ : ∃ rb r2, rest = rb ++ r2 ∧ xn = rb.length := ⟨rest.take xn, rest.drop xn, by simp, by simp; omega⟩
                  have hrec : RdV B S (.slice (offA (some ⟨gr, orr, none⟩) d 1 1) (rb.length + 1 - 1) (d - 1)) (bytesV rb) := by have := hrd.part 1 (rb.length + 1) (by omega) hrl (by omega) (by omega) rfl; rwa [show ((x :: (rb ++ r2)).take (rb.length + 1)).drop 1 = rb by simp] at this
                  refine T.openPg g24 recs mark (fun p cc R hR hok hro hlen hp => ?_)
                  subst hR
                  have hub : usedR (R.map Rec.b ++ [rb]) = usedR (R.map Rec.b) + rb.length + 1 := by rw [usedR_append]; simp [usedR]; omega
                  refine T.skip ?_
                  refine T.seq ?_
                  refine T.region ?_
                  refine LW.q rfl (Qt.move rfl) ?_
                  refine LW.q rfl (Qt.index 0 (e := 5) (sz := 1) (by kernel_rfl) rfl rfl rfl (by omega)) ?_
                  refine LW.q rfl (Qt.loadW (v := .int .u8 rb.length) (by kernel_rfl) rfl (fun w ho => hcx w ho.tl.tl.tl.drop)) ?_
                  refine LW.q rfl (Qt.convI (by kernel_rfl) (by kernel_rfl) rfl (wr64 (by omega) (by omega))) ?_
                  refine LW.q rfl (Qt.add rfl rfl (wr64 (by omega) (by omega))) ?_
                  refine LW.q rfl (Qt.assign rfl) ?_
                  refine LW.done ?_
                  refine T.seq ?_
                  refine T.drawBl 11 none (by kernel_rfl) (Nat.le_of_ble_eq_true rfl) (by kernel_rfl) ?_
                  refine RW.q 0 rfl rfl (by kernel_rfl) Sub.any (Qt.move rfl) ?_
                  refine RW.q 1 rfl rfl (by kernel_rfl) Sub.any (Qt.move rfl) ?_
                  refine RW.q 2 rfl rfl (by kernel_rfl) Sub.any (Qt.nilCheck rfl) ?_
                  refine RW.q 3 rfl rfl (by kernel_rfl) Sub.any (Qt.fieldAddr0 (by kernel_rfl) rfl) ?_
                  first | refine RW.q 4 rfl rfl (by kernel_rfl) Sub.any (Qt.load (by kernel_rfl) rfl rfl) ?_ | refine RW.q 4 rfl rfl (by kernel_rfl) Sub.any (Qt.load (by kernel_rfl) rfl (map_at _ _ _ (by omega))) ?_ | refine RW.q 4 rfl rfl (by kernel_rfl) Sub.any (Qt.load (by kernel_rfl) rfl (flat_cell0 _ _ _ (by intros; rfl) _ (by omega) (by rfl))) ?_ | refine RW.q 4 rfl rfl (by kernel_rfl) Sub.any (Qt.load (by kernel_rfl) rfl (flat_cell _ _ _ (by intros; rfl) _ _ (by omega) (by rfl))) ?_ | refine RW.q 4 rfl rfl (by kernel_rfl) Sub.any (Qt.load (by kernel_rfl) rfl (bytes_at _ _ (by omega))) ?_
                  refine RW.q 5 rfl rfl (by kernel_rfl) Sub.any (Qt.move rfl) ?_
                  refine RW.q 6 rfl rfl (by kernel_rfl) Sub.any (Qt.move rfl) ?_
                  refine RW.q 7 rfl rfl (by kernel_rfl) Sub.any (Qt.slice_ssn 1 (rb.length + 1) (e := 5) (sz := 1) (by kernel_rfl) rfl rfl rfl rfl rfl (by omega) (by omega)) ?_
                  refine RW.one 8 (by kernel_rfl) ?_
                  refine RO.eS rfl rfl (Ef.callL (Cd.clone B _ _ rb rb.length rfl (hrec.mono (fun w ho => ho.map Sub.any)) (by omega)) Tryd.func48 rfl rfl rfl ?_)
                  rintro _ _ ⟨p1, c1, rfl, rfl⟩
                  try simp only [List.cons_append, List.nil_append]
                  refine ⟨Sub.any, ?_⟩
                  refine RW.one 9 (by kernel_rfl) ?_
                  refine RO.eS rfl rfl (Ef.one [_] (e := 22) (sz := 1) (by kernel_rfl) ⟨.slice none 0 0, by kernel_rfl, rfl⟩ rfl rfl rfl (by omega) (by omega) ?_)
                  intro g66
                  refine ⟨Sub.any, ?_⟩
                  refine RW.one 10 (by kernel_rfl) ?_
                  refine RO.eS rfl rfl (Ef.append Pg.elemP rfl rfl (SrcOf.blk (by kernel_rfl) rfl (by simp [Value.oneCell'])) (by unfold maxLen; omega) (by omega) ?_)
                  rintro p2 c2 hp2
                  try simp only [List.cons_append, List.nil_append]
                  rw [show [Value.slice p1 rb.length c1] = [recV ⟨p1, c1, rb⟩] from rfl, map_snoc recV]
                  refine ⟨Sub.any, ?_⟩
                  refine RW.done (by rfl) ?_
                  simp only [List.drop_succ_cons, List.drop_zero, List.drop_nil]
                  refine LW.q rfl (Qt.nilCheck rfl) ?_
                  refine LW.q rfl (Qt.fieldAddr0 (by kernel_rfl) rfl) ?_
                  refine LW.e0 rfl (Ef.store1 (by kernel_rfl) rfl rfl rfl (by first | (simp; done) | (simp; omega)) ?_)
                  try simp only [List.set_cons_zero, List.set_cons_succ]
                  refine LW.done ?_
                  refine T.region ?_
                  refine LW.q rfl (Qt.move rfl) ?_
                  refine LW.q rfl (Qt.move rfl) ?_
                  refine LW.q rfl (Qt.slice_snn (rb.length + 1) (e := 5) (sz := 1) (by kernel_rfl) rfl rfl rfl (by omega)) ?_
                  refine LW.q rfl (Qt.assign rfl) ?_
                  refine LW.done ?_
                  refine T.region ?_
                  refine LW.q rfl (Qt.add rfl rfl (wr64 (by omega) (by omega))) ?_
                  refine LW.q rfl (Qt.move rfl) ?_
                  refine LW.done ?_
                  refine ⟨_, ?_, _, ⟨_, k + 1, R.map Rec.b ++ [rb], m - (rb.length + 1), r2, _, _, ⟨by omega, by simp at hrl2; omega, by omega, by omega, by intro y hy; rcases List.mem_append.1 hy with h | h; exact hok.len y h; simp at h; subst h; omega, by have := hrd.dropB (rb.length + 1) (by omega) hrl (by omega); rwa [show (x :: (rb ++ r2)).drop (rb.length + 1) = r2 by simp] at this, by rw [hpar, show K - k = (K - (k + 1)) + 1 by omega, parseR_cons (by omega) (by simp; omega), hxn]; simp [Option.map_map, Function.comp_def]⟩, rfl, (updS rfl (updS rfl (updS rfl (updS rfl rfl)))), rfl⟩, Sub.pgAdd g24 p2 (R.length + 1) c2 R p1 c1 rb mark rfl (R.map Rec.b ++ [rb]) (by simp) ⟨by omega, by intro y hy; rcases List.mem_append.1 hy with h | h; exact hok.len y h; simp at h; subst h; omega⟩⟩
                  first | omega | (simp; omega)
          · skip
            obtain rfl : k = K := by omega
            refine T.exit ?_
            refine T.seq ?_
            refine T.seq ?_
            refine T.region ?_
            refine LW.q rfl (Qt.move rfl) ?_
            refine LW.e rfl (Ef.call (Tr.trim B S pr m d rest hrd hrl hmd (by omega)) Tryd.func51 rfl rfl rfl ?_)
            rintro _ S ⟨p3, m3, c3, rfl, hz, rfl⟩
            try simp only [List.cons_append, List.nil_append]
            refine LW.q rfl (Qt.len (e := 5) (sz := 1) (by kernel_rfl) rfl) ?_
            refine LW.q rfl (Qt.gtr rfl rfl) ?_
            refine LW.done ?_
            refine T.condP rfl (fun hz2 => ?_) (fun hz2 => ?_)
            · skip
              refine T.seq ?_
              refine T.region ?_
              refine LW.q rfl (Qt.assign rfl) ?_
              refine LW.q rfl (Qt.assign rfl) ?_
              refine LW.done ?_
              refine T.ret ?_
              exact ⟨.inl rfl, _, _, res [_, _] rfl ⟨rvT rfl, rvT rfl, trivial⟩, OpenPost.err (e := 31) (openR_31 hm hs2 (by rw [hgd, hK, hpar, Nat.sub_self, parseR, if_neg (by intro h; have := hz.2 (by simpa using h); omega)]; rfl)) rfl rfl, Sub.any⟩
            · skip
              refine T.skip ?_
              refine T.seq ?_
              refine T.region ?_
              refine LW.q rfl (Qt.move rfl) ?_
              refine LW.q rfl (Qt.assign rfl) ?_
              refine LW.q rfl (Qt.assign rfl) ?_
              refine LW.done ?_
              refine T.ret ?_
              exact ⟨.inl rfl, _, _, res [_, _] rfl ⟨rvT rfl, rvT rfl, trivial⟩, OpenPost.ok (recs := recs) (mark := mark) (by rw [openR_ok (recs := recs) hm hs2 (by rw [hgd, hK, hpar, Nat.sub_self, parseR, if_pos (by simpa using hz.1 (by omega))]; simp), hmark]) rfl rfl, Sub.any⟩
end Go.Proofs.YtjjhbpjbngdlnaaDoor
