/- The texts BhC BhD BhE RlC, one behind the other: what the law leans on. Conditions: as each theorem says. -/
import Derived.Test.YtegohgaccmkigaaGreatDoorZBufferPlays9
/- The document's pool: New, Pin, Flush. Conditions: sizes; the frames are in order. -/
set_option linter.unusedSimpArgs false
set_option linter.unusedVariables false
namespace Go.Proofs.YtegohgaccmkigaaGreatDoor
open Go.RowKit

theorem pinP_vic {first count : Nat} {s : Pl} {page : Int} (h : ¬ (page < 0 ∨ (count : Int) ≤ page)) (hf : findA s.A page = none) : pinP first count s page = if (vicI first s).2 < 0 then (s, 60) else ({ (vicI first s).1 with A := (vicI first s).1.A.set (vicI first s).2.toNat (newA page ((vicI first s).1.D.read (first + page.toNat))) }, 0) := by
  unfold pinP vicI
  rw [if_neg h, hf]
  dsimp only
  cases victimP first s with
  | none => simp
  | some r =>
    obtain ⟨i, s'⟩ := r
    dsimp only
    rw [if_neg (by omega), Int.toNat_natCast]
theorem vic_none {first : Nat} {s : Pl} (h : (vicI first s).2 < 0) : (vicI first s).1 = s := by
  unfold vicI at *
  cases hv : victimP first s with
  | none => rfl
  | some r => rw [hv] at h; obtain ⟨i, s'⟩ := r; dsimp only at h; omega
theorem vic_ok {first count n : Nat} {s : Pl} (hF : FOk count n s.A) (hh : s.hand < n) (hw : WOk s.W s.D) (ho : s.D.Ok) (hp : s.D.pend.length + 16384 + 1 < 2 ^ 32) (hsec : first + count ≤ s.D.secs.length) :
    (vicI first s).1.A.length = n ∧ (0 ≤ (vicI first s).2 → (vicI first s).2.toNat < n) ∧ WOk (vicI first s).1.W (vicI first s).1.D ∧ (vicI first s).1.D.Ok ∧ (vicI first s).1.D.secs.length = s.D.secs.length ∧ (vicI first s).1.D.pend.length ≤ s.D.pend.length + 1 := by
  have hc := vic_cases (first := first) (s := s) (by rw [hF.len]; exact hh)
  generalize vicI first s = res at hc
  cases hc with
  | free i x hi hp hfirst => exact ⟨hF.len, fun _ => by rw [Int.toNat_natCast, ← hF.len]; exact (List.getElem?_eq_some_iff.1 hi).1, hw, ho, rfl, by dsimp only; omega⟩
  | full hx => exact ⟨hF.len, fun h => by dsimp only at h; omega, hw, ho, rfl, by dsimp only; omega⟩
  | clock i h' A' x' hx ha hc hx' hup =>
    obtain ⟨y, hy, q1, q2, q3, q4, q5⟩ := clock_fr hc i x' hx'
    have hyo := fr_ok hF hy (hx i y hy)
    obtain ⟨f1, f2, f3, f4, f5, f6, f7⟩ := hw.give (first := first) ho hp x' (by rw [q1]; omega) (by rw [q5]; exact hyo.2.2.1)
    obtain ⟨l1, l2⟩ := clock_len hc
    exact ⟨by rw [← hF.len]; exact l1, fun _ => by rw [Int.toNat_natCast, ← hF.len]; exact l2, f1, f2, f3, f4⟩

set_option maxHeartbeats 4000000 in
set_option maxRecDepth 100000 in
theorem Rp.pin (B : Base) (p q : Option Addr) (a c N m : Nat) (W : Wl) (D : DD) (first count : Nat) (pf : Option Addr) (n cf hand : Nat) (A : List Fa) (page : Int) (hF : FOk count n A) (hpin : ∀ x ∈ A, x.pins < 2 ^ 62) (hh : hand < n) (hN : D.secs.length = N) (hm : D.pend.length = m) (hw : WOk W D) (ho : D.Ok) (hroom : m + 16384 + 1 < 2 ^ 32) (hsec : first + count ≤ N) (res : Pl × Int) (hres : pinP first count ⟨A, hand, W, D⟩ page = res) :
  Fn Tryz.prog B 29 #[rqV p q a c N m W first count pf n cf hand, .int .i64 page] [rS (.slice p N a) N D.secs, rW (.slice q m c) m D.pend, raR pf n cf A]
   (fun v l => ∃ p' q' a' c' m' pf' cf', res.1.D.pend.length = m' ∧ v = .tuple #[rqV p' q' a' c' N m' res.1.W first count pf' n cf' res.1.hand, .int .i64 res.2] ∧ l = [rS (.slice p' N a') N res.1.D.secs, rW (.slice q' m' c') m' res.1.D.pend, raR pf' n cf' res.1.A]) := by
 have hn := hF.len
 have hn2 := hF.n2
 have hn1 := hF.n1
 have hwm := hw.max
 have hfl := ra_len A
 refine Fn.enter2 65 Tryz.func29 rfl rfl (Nat.le_of_ble_eq_true rfl) (fun F => ?_)
 try simp only [List.cons_append, List.nil_append]
 refine T.seq ?_
 refine T.region ?_
 refine LW.e rfl (Ef.box [_, _, _, _, _, _, _, _, _, _, _] rfl rfl ?_)
 intro g2
 refine LW.e rfl (Ef.alloc [.slice none 0 0, .slice none 0 0, .string .empty, .int .u32 0, .int .i64 0, .int .i64 0, .int .i64 0, .int .i64 0, .int .i64 0, .slice none 0 0, .int .i64 0] (by unfold zeroB; kernel_rfl) ?_)
 intro g4
 refine LW.q rfl (Qt.assign rfl) ?_
 refine LW.done ?_
 refine T.seq ?_
 refine T.seq ?_
 refine T.region ?_
 refine LW.q rfl (Qt.move rfl) ?_
 refine LW.q rfl (Qt.lss rfl rfl) ?_
 refine LW.q rfl (Qt.move rfl) ?_
 by_cases hr : page < 0 ∨ (count : Int) ≤ page
 ·
  rw [pinP_range hr] at hres
  subst hres
  refine LW.split (t := 11) rfl (fun h1 => ?_) (fun h1 => ?_)
  ·
   try replace h1 := of_decide_eq_true h1
   refine LW.s rfl ?_
   refine LW.s rfl ?_
   refine LW.s rfl ?_
   refine LW.s rfl ?_
   refine LW.q rfl (Qt.pick rfl rfl) ?_
   refine LW.done ?_
   first | refine T.condT rfl ?_ | refine T.condPT rfl (by omega) ?_ | refine T.condBT rfl (by omega) ?_
   refine T.seq ?_
   refine T.region ?_
   first | refine LW.q rfl (Qt.loadAgg [_, _, _, _, _, _, _, _, _, _, _] (by kernel_rfl) rfl ⟨rfl, rfl, rfl, rfl, rfl, rfl, rfl, rfl, rfl, rfl, rfl, trivial⟩) ?_ | refine LW.q rfl (Qt.loadAgg [_, _, _, _, _, _, _, _, _, _, _] (by kernel_rfl) rfl (by exact rdl_flat _ _ _ (by intros; rfl) _ (by omega))) ?_
   refine LW.e0 rfl (Ef.store [_, _, _, _, _, _, _, _, _, _, _] (by kernel_rfl) rfl rfl rfl rfl (by simp) ?_)
   try simp only [splice, List.length_cons, List.length_nil, List.drop_succ_cons, List.cons_append, List.take_succ_cons, List.take_zero, List.drop_zero, List.nil_append, List.append_nil]
   refine LW.q rfl (Qt.assign rfl) ?_
   refine LW.done ?_
   refine T.ret ?_
   exact ⟨.inl rfl, _, _, res [_, _] rfl ⟨rvA [_, _, _, _, _, _, _, _, _, _, _] (by kernel_rfl) rfl ⟨rfl, rfl, rfl, rfl, rfl, rfl, rfl, rfl, rfl, rfl, rfl, trivial⟩, rvT rfl, trivial⟩, ⟨p, q, a, c, m, pf, cf, hm, rfl, rfl⟩, Sub.any⟩
  ·
   try replace h1 := of_decide_eq_false h1
   refine LW.q rfl (Qt.move rfl) ?_
   refine LW.q rfl (Qt.fieldAddr (off := 8) (by kernel_rfl) rfl) ?_
   first | refine LW.q rfl (Qt.load (by kernel_rfl) rfl rfl) ?_ | refine LW.q rfl (Qt.load (by kernel_rfl) rfl (map_at _ _ _ (by omega))) ?_ | refine LW.q rfl (Qt.load (by kernel_rfl) rfl (flat_cell0 _ _ _ (by intros; rfl) _ (by omega) (by rfl))) ?_ | refine LW.q rfl (Qt.load (by kernel_rfl) rfl (flat_cell _ _ _ (by intros; rfl) _ _ (by omega) (by rfl))) ?_ | refine LW.q rfl (Qt.load (by kernel_rfl) rfl (bytes_at _ _ (by omega))) ?_
   refine LW.q rfl (Qt.geq rfl rfl) ?_
   refine LW.q rfl (Qt.pick rfl rfl) ?_
   refine LW.done ?_
   first | refine T.condT rfl ?_ | refine T.condPT rfl (by omega) ?_ | refine T.condBT rfl (by omega) ?_
   refine T.seq ?_
   refine T.region ?_
   first | refine LW.q rfl (Qt.loadAgg [_, _, _, _, _, _, _, _, _, _, _] (by kernel_rfl) rfl ⟨rfl, rfl, rfl, rfl, rfl, rfl, rfl, rfl, rfl, rfl, rfl, trivial⟩) ?_ | refine LW.q rfl (Qt.loadAgg [_, _, _, _, _, _, _, _, _, _, _] (by kernel_rfl) rfl (by exact rdl_flat _ _ _ (by intros; rfl) _ (by omega))) ?_
   refine LW.e0 rfl (Ef.store [_, _, _, _, _, _, _, _, _, _, _] (by kernel_rfl) rfl rfl rfl rfl (by simp) ?_)
   try simp only [splice, List.length_cons, List.length_nil, List.drop_succ_cons, List.cons_append, List.take_succ_cons, List.take_zero, List.drop_zero, List.nil_append, List.append_nil]
   refine LW.q rfl (Qt.assign rfl) ?_
   refine LW.done ?_
   refine T.ret ?_
   exact ⟨.inl rfl, _, _, res [_, _] rfl ⟨rvA [_, _, _, _, _, _, _, _, _, _, _] (by kernel_rfl) rfl ⟨rfl, rfl, rfl, rfl, rfl, rfl, rfl, rfl, rfl, rfl, rfl, trivial⟩, rvT rfl, trivial⟩, ⟨p, q, a, c, m, pf, cf, hm, rfl, rfl⟩, Sub.any⟩
 ·
  first | refine LW.gF (t := 11) rfl rfl ?_ | refine LW.gF (t := 11) rfl (decide_eq_false (by omega)) ?_ | refine LW.gF (t := 11) rfl (by omega) ?_
  refine LW.q rfl (Qt.move rfl) ?_
  refine LW.q rfl (Qt.fieldAddr (off := 8) (by kernel_rfl) rfl) ?_
  first | refine LW.q rfl (Qt.load (by kernel_rfl) rfl rfl) ?_ | refine LW.q rfl (Qt.load (by kernel_rfl) rfl (map_at _ _ _ (by omega))) ?_ | refine LW.q rfl (Qt.load (by kernel_rfl) rfl (flat_cell0 _ _ _ (by intros; rfl) _ (by omega) (by rfl))) ?_ | refine LW.q rfl (Qt.load (by kernel_rfl) rfl (flat_cell _ _ _ (by intros; rfl) _ _ (by omega) (by rfl))) ?_ | refine LW.q rfl (Qt.load (by kernel_rfl) rfl (bytes_at _ _ (by omega))) ?_
  refine LW.q rfl (Qt.geq rfl rfl) ?_
  refine LW.q rfl (Qt.pick rfl rfl) ?_
  refine LW.done ?_
  first | refine T.condF rfl ?_ | refine T.condPF rfl (by omega) ?_ | refine T.condBF rfl (by omega) ?_
  refine T.skip ?_
  refine T.seq ?_
  refine T.region ?_
  first | refine LW.q rfl (Qt.loadAgg [_, _, _, _, _, _, _, _, _, _, _] (by kernel_rfl) rfl ⟨rfl, rfl, rfl, rfl, rfl, rfl, rfl, rfl, rfl, rfl, rfl, trivial⟩) ?_ | refine LW.q rfl (Qt.loadAgg [_, _, _, _, _, _, _, _, _, _, _] (by kernel_rfl) rfl (by exact rdl_flat _ _ _ (by intros; rfl) _ (by omega))) ?_
  refine LW.e rfl (Ef.call (Rp.copied B p q a c N m W first count pf n cf hand A hn hn2) Tryz.func52 rfl rfl rfl ?_)
  rintro _ _ ⟨pf2, cf2, rfl, rfl⟩
  try simp only [List.cons_append, List.nil_append]
  refine LW.own (fun w ho => ?_)
  obtain ⟨gf, rfl⟩ : ∃ g, pf2 = some ⟨g, 0, none⟩ := (ho.slice_at (p := pf2) (m := n) (c := cf2)).2.1 (by omega)
  clear ho
  refine LW.e0 rfl (Ef.store [_, _, _, _, _, _, _, _, _, _, _] (by kernel_rfl) rfl rfl rfl rfl (by simp) ?_)
  try simp only [splice, List.length_cons, List.length_nil, List.drop_succ_cons, List.cons_append, List.take_succ_cons, List.take_zero, List.drop_zero, List.nil_append, List.append_nil]
  refine LW.done ?_
  refine T.seq ?_
  refine T.region ?_
  first | refine LW.q rfl (Qt.loadAgg [_, _, _, _, _, _, _, _, _, _, _] (by kernel_rfl) rfl ⟨rfl, rfl, rfl, rfl, rfl, rfl, rfl, rfl, rfl, rfl, rfl, trivial⟩) ?_ | refine LW.q rfl (Qt.loadAgg [_, _, _, _, _, _, _, _, _, _, _] (by kernel_rfl) rfl (by exact rdl_flat _ _ _ (by intros; rfl) _ (by omega))) ?_
  refine LW.q rfl (Qt.move rfl) ?_
  refine LW.e rfl (Ef.call (Rp.find B p q a c N m W first count (some ⟨gf, 0, none⟩) n cf2 hand A hn hn2 page) Tryz.func53 rfl rfl rfl ?_)
  rintro _ _ ⟨rfl, rfl⟩
  try simp only [List.cons_append, List.nil_append]
  refine LW.q rfl (Qt.assign rfl) ?_
  refine LW.done ?_
  refine T.seq ?_
  refine T.seq ?_
  refine T.region ?_
  refine LW.q rfl (Qt.move rfl) ?_
  refine LW.q rfl (Qt.lss rfl rfl) ?_
  refine LW.done ?_
  by_cases hno : findA A page = none
  ·
   rw [findI_none hno]
   rw [pinP_vic (s := ⟨A, hand, W, D⟩) hr hno] at hres
   have hv0 := vic_none (first := first) (s := ⟨A, hand, W, D⟩)
   obtain ⟨v1, v2, v3, v4, v5, v6⟩ := vic_ok (first := first) (s := ⟨A, hand, W, D⟩) hF hh hw ho (by show D.pend.length + _ < _; omega) (by show _ ≤ D.secs.length; omega)
   first | refine T.condT rfl ?_ | refine T.condPT rfl (by omega) ?_ | refine T.condBT rfl (by omega) ?_
   refine T.seq ?_
   refine T.region ?_
   first | refine LW.q rfl (Qt.loadAgg [_, _, _, _, _, _, _, _, _, _, _] (by kernel_rfl) rfl ⟨rfl, rfl, rfl, rfl, rfl, rfl, rfl, rfl, rfl, rfl, rfl, trivial⟩) ?_ | refine LW.q rfl (Qt.loadAgg [_, _, _, _, _, _, _, _, _, _, _] (by kernel_rfl) rfl (by exact rdl_flat _ _ _ (by intros; rfl) _ (by omega))) ?_
   refine LW.e rfl (Ef.call (Rp.victim B p q a c N m W D first count (some ⟨gf, 0, none⟩) n cf2 hand A hF hh hN hm hw ho hroom hsec) Tryz.func54 rfl rfl rfl ?_)
   rintro _ _ ⟨p3, q3, a3, c3, m3, hm3, rfl, rfl⟩
   try simp only [List.cons_append, List.nil_append]
   obtain ⟨⟨⟨A3, h3, W3, D3⟩, i3⟩, hvi⟩ : ∃ r, vicI first ⟨A, hand, W, D⟩ = r := ⟨_, rfl⟩
   rw [hvi] at hres hv0 v1 v2 v3 v4 v5 v6 hm3
   rw [hvi]
   dsimp only at hres hv0 v1 v2 v3 v4 v5 v6 hm3
   have hwm3 := v3.max
   refine LW.q rfl (Qt.move rfl) ?_
   refine LW.q rfl (Qt.extract rfl rfl) ?_
   refine LW.q rfl (Qt.extract rfl rfl) ?_
   refine LW.e0 rfl (Ef.store [_, _, _, _, _, _, _, _, _, _, _] (by kernel_rfl) rfl rfl rfl rfl (by simp) ?_)
   try simp only [splice, List.length_cons, List.length_nil, List.drop_succ_cons, List.cons_append, List.take_succ_cons, List.take_zero, List.drop_zero, List.nil_append, List.append_nil]
   refine LW.q rfl (Qt.assign rfl) ?_
   refine LW.done ?_
   refine T.seq ?_
   refine T.seq ?_
   refine T.region ?_
   refine LW.q rfl (Qt.move rfl) ?_
   refine LW.q rfl (Qt.lss rfl rfl) ?_
   refine LW.done ?_
   refine T.condP rfl (fun hi3 => ?_) (fun hi3 => ?_)
   ·
    rw [if_pos hi3] at hres
    subst hres
    obtain ⟨rfl, rfl, rfl, rfl⟩ : A3 = A ∧ h3 = hand ∧ W3 = W ∧ D3 = D := by have := hv0 hi3; simpa using this
    refine T.seq ?_
    refine T.region ?_
    first | refine LW.q rfl (Qt.loadAgg [_, _, _, _, _, _, _, _, _, _, _] (by kernel_rfl) rfl ⟨rfl, rfl, rfl, rfl, rfl, rfl, rfl, rfl, rfl, rfl, rfl, trivial⟩) ?_ | refine LW.q rfl (Qt.loadAgg [_, _, _, _, _, _, _, _, _, _, _] (by kernel_rfl) rfl (by exact rdl_flat _ _ _ (by intros; rfl) _ (by omega))) ?_
    refine LW.e0 rfl (Ef.store [_, _, _, _, _, _, _, _, _, _, _] (by kernel_rfl) rfl rfl rfl rfl (by simp) ?_)
    try simp only [splice, List.length_cons, List.length_nil, List.drop_succ_cons, List.cons_append, List.take_succ_cons, List.take_zero, List.drop_zero, List.nil_append, List.append_nil]
    refine LW.q rfl (Qt.assign rfl) ?_
    refine LW.done ?_
    refine T.ret ?_
    exact ⟨.inl rfl, _, _, res [_, _] rfl ⟨rvA [_, _, _, _, _, _, _, _, _, _, _] (by kernel_rfl) rfl ⟨rfl, rfl, rfl, rfl, rfl, rfl, rfl, rfl, rfl, rfl, rfl, trivial⟩, rvT rfl, trivial⟩, ⟨p3, q3, a3, c3, m3, _, cf2, hm3, rfl, rfl⟩, Sub.any⟩
   ·
    rw [if_neg hi3] at hres
    obtain ⟨i, rfl⟩ : ∃ i : Nat, i3 = i := ⟨i3.toNat, by omega⟩
    have hil : i < A3.length := by have := v2 (by omega); omega
    rw [Int.toNat_natCast] at hres
    subst hres
    have hfl3 := ra_len A3
    refine T.skip ?_
    refine T.seq ?_
    refine T.region ?_
    refine LW.q rfl (Qt.fieldAddr0 (by kernel_rfl) rfl) ?_
    first | refine LW.q rfl (Qt.loadAgg [_, _] (by kernel_rfl) rfl ⟨rfl, rfl, trivial⟩) ?_ | refine LW.q rfl (Qt.loadAgg [_, _] (by kernel_rfl) rfl (by exact rdl_flat _ _ _ (by intros; rfl) _ (by omega))) ?_
    refine LW.q rfl (Qt.fieldAddr (off := 7) (by kernel_rfl) rfl) ?_
    first | refine LW.q rfl (Qt.load (by kernel_rfl) rfl rfl) ?_ | refine LW.q rfl (Qt.load (by kernel_rfl) rfl (map_at _ _ _ (by omega))) ?_ | refine LW.q rfl (Qt.load (by kernel_rfl) rfl (flat_cell0 _ _ _ (by intros; rfl) _ (by omega) (by rfl))) ?_ | refine LW.q rfl (Qt.load (by kernel_rfl) rfl (flat_cell _ _ _ (by intros; rfl) _ _ (by omega) (by rfl))) ?_ | refine LW.q rfl (Qt.load (by kernel_rfl) rfl (bytes_at _ _ (by omega))) ?_
    refine LW.q rfl (Qt.move rfl) ?_
    refine LW.q rfl (Qt.add rfl rfl (wr64 (by omega) (by omega))) ?_
    refine LW.e rfl (Ef.call (Rf.read B p3 q3 a3 c3 N m3 (first + page) (first + page.toNat) (by omega) D3.secs D3.pend (by omega) (by omega) (by omega)) Tryz.func23 rfl rfl rfl ?_)
    rintro _ _ ⟨rfl, rfl⟩
    try simp only [List.cons_append, List.nil_append]
    obtain ⟨dat, hdat⟩ : ∃ dat, D3.read (first + page.toNat) = dat := ⟨_, rfl⟩
    rw [show DD.read ⟨D3.secs, D3.pend⟩ (first + page.toNat) = dat from hdat]
    refine LW.q rfl (Qt.move rfl) ?_
    refine LW.q rfl (Qt.extract rfl rfl) ?_
    refine LW.q rfl (Qt.extract rfl rfl) ?_
    refine LW.q rfl (Qt.assign rfl) ?_
    refine LW.q rfl (Qt.assign rfl) ?_
    refine LW.done ?_
    refine T.region ?_
    refine LW.q rfl (Qt.fieldAddr (off := 9) (by kernel_rfl) rfl) ?_
    first | refine LW.q rfl (Qt.load (by kernel_rfl) rfl rfl) ?_ | refine LW.q rfl (Qt.load (by kernel_rfl) rfl (map_at _ _ _ (by omega))) ?_ | refine LW.q rfl (Qt.load (by kernel_rfl) rfl (flat_cell0 _ _ _ (by intros; rfl) _ (by omega) (by rfl))) ?_ | refine LW.q rfl (Qt.load (by kernel_rfl) rfl (flat_cell _ _ _ (by intros; rfl) _ _ (by omega) (by rfl))) ?_ | refine LW.q rfl (Qt.load (by kernel_rfl) rfl (bytes_at _ _ (by omega))) ?_
    refine LW.q rfl (Qt.move rfl) ?_
    refine LW.q rfl (Qt.move rfl) ?_
    refine LW.q rfl (Qt.move rfl) ?_
    refine LW.q rfl (Qt.build [(0, 1), (1, 1), (2, 1), (3, 1), (4, 1), (5, 1)] [.int .i64 0, .string .empty, .int .i64 0, .int .i64 0, .bool false, .bool false] [_, _, _, _, _, _] [(0, _), (1, _)] (by kernel_rfl) (by unfold zeroB; kernel_rfl) rfl rfl) ?_
    refine LW.q rfl (Qt.index _ (e := 90) (sz := 6) (by kernel_rfl) rfl rfl rfl (by omega)) ?_
    refine LW.e0 rfl (Ef.store (raC ⟨page, 0, 0, false, false, dat⟩) (by kernel_rfl) rfl rfl rfl rfl (by simp only [List.length_cons, List.length_nil]; omega) ?_)
    rw [ra_splice hil]
    have h2 : (A3.set i ⟨page, 0, 0, false, false, dat⟩)[i]? = some ⟨page, 0, 0, false, false, dat⟩ := by rw [List.getElem?_set_self hil]
    have hfl2 := ra_len (A3.set i ⟨page, 0, 0, false, false, dat⟩)
    rw [List.length_set] at hfl2
    refine LW.done ?_
    refine T.seq ?_
    refine T.region ?_
    refine LW.q rfl (Qt.fieldAddr (off := 9) (by kernel_rfl) rfl) ?_
    first | refine LW.q rfl (Qt.load (by kernel_rfl) rfl rfl) ?_ | refine LW.q rfl (Qt.load (by kernel_rfl) rfl (map_at _ _ _ (by omega))) ?_ | refine LW.q rfl (Qt.load (by kernel_rfl) rfl (flat_cell0 _ _ _ (by intros; rfl) _ (by omega) (by rfl))) ?_ | refine LW.q rfl (Qt.load (by kernel_rfl) rfl (flat_cell _ _ _ (by intros; rfl) _ _ (by omega) (by rfl))) ?_ | refine LW.q rfl (Qt.load (by kernel_rfl) rfl (bytes_at _ _ (by omega))) ?_
    refine LW.q rfl (Qt.move rfl) ?_
    refine LW.q rfl (Qt.index _ (e := 90) (sz := 6) (by kernel_rfl) rfl rfl rfl (by omega)) ?_
    refine LW.q rfl (Qt.fieldAddr (off := 3) (by kernel_rfl) rfl) ?_
    refine LW.q rfl (Qt.load (v := .int .i64 0) (by kernel_rfl) rfl (ra_at h2 3 (by omega))) ?_
    refine LW.q rfl (Qt.add rfl rfl (wr64 (by omega) (by omega))) ?_
    refine LW.q rfl (Qt.index _ (e := 90) (sz := 6) (by kernel_rfl) rfl rfl rfl (by omega)) ?_
    refine LW.q rfl (Qt.fieldAddr (off := 3) (by kernel_rfl) rfl) ?_
    refine LW.e0 rfl (Ef.store1 (by kernel_rfl) rfl rfl rfl (by omega) ?_)
    rw [ra_set (y := ⟨page, 0, 1, false, false, dat⟩) h2 3 (by omega) (.int .i64 (0 + 1)) rfl, List.set_set]
    have h3 : (A3.set i ⟨page, 0, 1, false, false, dat⟩)[i]? = some ⟨page, 0, 1, false, false, dat⟩ := by rw [List.getElem?_set_self hil]
    have hfl3 := ra_len (A3.set i ⟨page, 0, 1, false, false, dat⟩)
    rw [List.length_set] at hfl3
    refine LW.done ?_
    refine T.seq ?_
    refine T.region ?_
    refine LW.q rfl (Qt.fieldAddr (off := 9) (by kernel_rfl) rfl) ?_
    first | refine LW.q rfl (Qt.load (by kernel_rfl) rfl rfl) ?_ | refine LW.q rfl (Qt.load (by kernel_rfl) rfl (map_at _ _ _ (by omega))) ?_ | refine LW.q rfl (Qt.load (by kernel_rfl) rfl (flat_cell0 _ _ _ (by intros; rfl) _ (by omega) (by rfl))) ?_ | refine LW.q rfl (Qt.load (by kernel_rfl) rfl (flat_cell _ _ _ (by intros; rfl) _ _ (by omega) (by rfl))) ?_ | refine LW.q rfl (Qt.load (by kernel_rfl) rfl (bytes_at _ _ (by omega))) ?_
    refine LW.q rfl (Qt.move rfl) ?_
    refine LW.q rfl (Qt.index _ (e := 90) (sz := 6) (by kernel_rfl) rfl rfl rfl (by omega)) ?_
    refine LW.q rfl (Qt.fieldAddr (off := 5) (by kernel_rfl) rfl) ?_
    refine LW.e0 rfl (Ef.store1 (by kernel_rfl) rfl rfl rfl (by omega) ?_)
    rw [ra_set (y := newA page dat) h3 5 (by omega) (.bool true) rfl, List.set_set]
    refine LW.done ?_
    refine T.seq ?_
    refine T.region ?_
    first | refine LW.q rfl (Qt.loadAgg [_, _, _, _, _, _, _, _, _, _, _] (by kernel_rfl) rfl ⟨rfl, rfl, rfl, rfl, rfl, rfl, rfl, rfl, rfl, rfl, rfl, trivial⟩) ?_ | refine LW.q rfl (Qt.loadAgg [_, _, _, _, _, _, _, _, _, _, _] (by kernel_rfl) rfl (by exact rdl_flat _ _ _ (by intros; rfl) _ (by omega))) ?_
    refine LW.e0 rfl (Ef.store [_, _, _, _, _, _, _, _, _, _, _] (by kernel_rfl) rfl rfl rfl rfl (by simp) ?_)
    try simp only [splice, List.length_cons, List.length_nil, List.drop_succ_cons, List.cons_append, List.take_succ_cons, List.take_zero, List.drop_zero, List.nil_append, List.append_nil]
    refine LW.q rfl (Qt.assign rfl) ?_
    refine LW.done ?_
    refine T.ret ?_
    exact ⟨.inl rfl, _, _, res [_, _] rfl ⟨rvA [_, _, _, _, _, _, _, _, _, _, _] (by kernel_rfl) rfl ⟨rfl, rfl, rfl, rfl, rfl, rfl, rfl, rfl, rfl, rfl, rfl, trivial⟩, rvT rfl, trivial⟩, ⟨p3, q3, a3, c3, m3, _, cf2, hm3, rfl, rfl⟩, Sub.any⟩
  ·
   obtain ⟨i, hi⟩ := Option.ne_none_iff_exists'.1 hno
   obtain ⟨h0, x, hx, _⟩ := findA_some hi
   have hil := (List.getElem?_eq_some_iff.1 hx).1
   have hxp := hpin x (List.mem_of_getElem? hx)
   have hxq : 0 ≤ x.pins := by rcases hF.fr x (List.mem_of_getElem? hx) with rfl | h; decide; exact h.2.2.2
   rw [findI_some hi]
   rw [pinP_found (s := ⟨A, hand, W, D⟩) hr hi hx] at hres
   subst hres
   first | refine T.condF rfl ?_ | refine T.condPF rfl (by omega) ?_ | refine T.condBF rfl (by omega) ?_
   refine T.skip ?_
   refine T.seq ?_
   refine T.region ?_
   refine LW.q rfl (Qt.fieldAddr (off := 9) (by kernel_rfl) rfl) ?_
   first | refine LW.q rfl (Qt.load (by kernel_rfl) rfl rfl) ?_ | refine LW.q rfl (Qt.load (by kernel_rfl) rfl (map_at _ _ _ (by omega))) ?_ | refine LW.q rfl (Qt.load (by kernel_rfl) rfl (flat_cell0 _ _ _ (by intros; rfl) _ (by omega) (by rfl))) ?_ | refine LW.q rfl (Qt.load (by kernel_rfl) rfl (flat_cell _ _ _ (by intros; rfl) _ _ (by omega) (by rfl))) ?_ | refine LW.q rfl (Qt.load (by kernel_rfl) rfl (bytes_at _ _ (by omega))) ?_
   refine LW.q rfl (Qt.move rfl) ?_
   refine LW.q rfl (Qt.index _ (e := 90) (sz := 6) (by kernel_rfl) rfl rfl rfl (by omega)) ?_
   refine LW.q rfl (Qt.fieldAddr (off := 3) (by kernel_rfl) rfl) ?_
   refine LW.q rfl (Qt.load (v := .int .i64 x.pins) (by kernel_rfl) rfl (ra_at hx 3 (by omega))) ?_
   refine LW.q rfl (Qt.add rfl rfl (wr64 (by omega) (by omega))) ?_
   refine LW.q rfl (Qt.index _ (e := 90) (sz := 6) (by kernel_rfl) rfl rfl rfl (by omega)) ?_
   refine LW.q rfl (Qt.fieldAddr (off := 3) (by kernel_rfl) rfl) ?_
   refine LW.e0 rfl (Ef.store1 (by kernel_rfl) rfl rfl rfl (by omega) ?_)
   rw [ra_set (y := { x with pins := x.pins + 1 }) hx 3 (by omega) _ rfl]
   have h3 : (A.set i { x with pins := x.pins + 1 })[i]? = some { x with pins := x.pins + 1 } := by rw [List.getElem?_set_self hil]
   have hfl3 := ra_len (A.set i { x with pins := x.pins + 1 })
   rw [List.length_set] at hfl3
   refine LW.done ?_
   refine T.seq ?_
   refine T.region ?_
   refine LW.q rfl (Qt.fieldAddr (off := 9) (by kernel_rfl) rfl) ?_
   first | refine LW.q rfl (Qt.load (by kernel_rfl) rfl rfl) ?_ | refine LW.q rfl (Qt.load (by kernel_rfl) rfl (map_at _ _ _ (by omega))) ?_ | refine LW.q rfl (Qt.load (by kernel_rfl) rfl (flat_cell0 _ _ _ (by intros; rfl) _ (by omega) (by rfl))) ?_ | refine LW.q rfl (Qt.load (by kernel_rfl) rfl (flat_cell _ _ _ (by intros; rfl) _ _ (by omega) (by rfl))) ?_ | refine LW.q rfl (Qt.load (by kernel_rfl) rfl (bytes_at _ _ (by omega))) ?_
   refine LW.q rfl (Qt.move rfl) ?_
   refine LW.q rfl (Qt.index _ (e := 90) (sz := 6) (by kernel_rfl) rfl rfl rfl (by omega)) ?_
   refine LW.q rfl (Qt.fieldAddr (off := 5) (by kernel_rfl) rfl) ?_
   refine LW.e0 rfl (Ef.store1 (by kernel_rfl) rfl rfl rfl (by omega) ?_)
   rw [ra_set (y := upA x) h3 5 (by omega) (.bool true) rfl, List.set_set]
   refine LW.done ?_
   refine T.seq ?_
   refine T.region ?_
   first | refine LW.q rfl (Qt.loadAgg [_, _, _, _, _, _, _, _, _, _, _] (by kernel_rfl) rfl ⟨rfl, rfl, rfl, rfl, rfl, rfl, rfl, rfl, rfl, rfl, rfl, trivial⟩) ?_ | refine LW.q rfl (Qt.loadAgg [_, _, _, _, _, _, _, _, _, _, _] (by kernel_rfl) rfl (by exact rdl_flat _ _ _ (by intros; rfl) _ (by omega))) ?_
   refine LW.e0 rfl (Ef.store [_, _, _, _, _, _, _, _, _, _, _] (by kernel_rfl) rfl rfl rfl rfl (by simp) ?_)
   try simp only [splice, List.length_cons, List.length_nil, List.drop_succ_cons, List.cons_append, List.take_succ_cons, List.take_zero, List.drop_zero, List.nil_append, List.append_nil]
   refine LW.q rfl (Qt.assign rfl) ?_
   refine LW.done ?_
   refine T.ret ?_
   exact ⟨.inl rfl, _, _, res [_, _] rfl ⟨rvA [_, _, _, _, _, _, _, _, _, _, _] (by kernel_rfl) rfl ⟨rfl, rfl, rfl, rfl, rfl, rfl, rfl, rfl, rfl, rfl, rfl, trivial⟩, rvT rfl, trivial⟩, ⟨p, q, a, c, m, _, cf2, hm, rfl, rfl⟩, Sub.any⟩

set_option maxHeartbeats 2000000 in
set_option maxRecDepth 100000 in
theorem Rp.new (B : Base) (p q : Option Addr) (a c N m : Nat) (W : Wl) (first count n : Nat) (i j k : Int) (hi : i = first) (hj : j = count) (hk : k = n) (hn2 : n ≤ 4096) :
  Fn Tryz.prog B 9 #[.agg #[.slice p N a, .slice q m c], logV W, .int .i64 i, .int .i64 j, .int .i64 k] [] (fun v l => ∃ pf cf, v = rqV p q a c N m W first count pf n cf 0 ∧ l = [raR pf n cf (List.replicate n fa1)]) := by
 subst hi; subst hj; subst hk
 refine Fn.enter5 30 Tryz.func9 rfl rfl (Nat.le_of_ble_eq_true rfl) (fun F => ?_)
 try simp only [List.cons_append, List.nil_append]
 refine T.seq ?_
 refine T.region ?_
 refine LW.e rfl (Ef.box [_, _] rfl rfl ?_)
 intro g5
 refine LW.e rfl (Ef.box [_, _, _, _, _] rfl rfl ?_)
 intro g6
 refine LW.e rfl (Ef.alloc [.slice none 0 0, .slice none 0 0, .string .empty, .int .u32 0, .int .i64 0, .int .i64 0, .int .i64 0, .int .i64 0, .int .i64 0, .slice none 0 0, .int .i64 0] (by unfold zeroB; kernel_rfl) ?_)
 intro g10
 refine LW.done ?_
 refine T.seq ?_
 refine T.region ?_
 first | refine LW.q rfl (Qt.loadAgg [_, _] (by kernel_rfl) rfl ⟨rfl, rfl, trivial⟩) ?_ | refine LW.q rfl (Qt.loadAgg [_, _] (by kernel_rfl) rfl (by exact rdl_flat _ _ _ (by intros; rfl) _ (by omega))) ?_
 first | refine LW.q rfl (Qt.loadAgg [_, _, _, _, _] (by kernel_rfl) rfl ⟨rfl, rfl, rfl, rfl, rfl, trivial⟩) ?_ | refine LW.q rfl (Qt.loadAgg [_, _, _, _, _] (by kernel_rfl) rfl (by exact rdl_flat _ _ _ (by intros; rfl) _ (by omega))) ?_
 refine LW.q rfl (Qt.move rfl) ?_
 refine LW.q rfl (Qt.move rfl) ?_
 refine LW.q rfl (Qt.build [(0, 2), (2, 5), (7, 1), (8, 1), (9, 1), (10, 1)] [.slice none 0 0, .slice none 0 0, .string .empty, .int .u32 0, .int .i64 0, .int .i64 0, .int .i64 0, .int .i64 0, .int .i64 0, .slice none 0 0, .int .i64 0] [_, _, _, _, _, _, _, _, _, _, _] [(0, _), (1, _), (2, _), (3, _)] (by kernel_rfl) (by unfold zeroB; kernel_rfl) rfl rfl) ?_
 refine LW.e rfl (Ef.alloc [.slice none 0 0, .slice none 0 0, .string .empty, .int .u32 0, .int .i64 0, .int .i64 0, .int .i64 0, .int .i64 0, .int .i64 0, .slice none 0 0, .int .i64 0] (by unfold zeroB; kernel_rfl) ?_)
 intro g11
 refine LW.e0 rfl (Ef.store [_, _, _, _, _, _, _, _, _, _, _] (by kernel_rfl) rfl rfl rfl rfl (by simp) ?_)
 try simp only [splice, List.length_cons, List.length_nil, List.drop_succ_cons, List.cons_append, List.take_succ_cons, List.take_zero, List.drop_zero, List.nil_append, List.append_nil]
 refine LW.done ?_
 refine T.seq ?_
 refine T.seq ?_
 refine T.region ?_
 refine LW.q rfl (Qt.assign rfl) ?_
 refine LW.done ?_
 refine T.block ?_
 refine T.conv (l' := raR none 0 0 (List.replicate 0 fa1) :: _) (fun w ho => ho.row_nil _ _) ?_
 refine T.loop (fun mz fz lz => ∃ (f0 : Fr) (e : Nat) (pf : Option Addr) (cf : Nat), (e ≤ n) ∧ mz = n - e ∧ fz = (upd (upd (upd (upd f0 4 (.int .i64 n)) 10 (.pointer (some ⟨g10, 0, none⟩))) 11 (.pointer (some ⟨g11, 0, none⟩))) 12 (.int .i64 e)) ∧ lz = raR pf e cf (List.replicate e fa1) :: blk g11 (rqC p q a c N m W first count pf e cf 0) 41 :: blk g10 [.slice none 0 0, .slice none 0 0, .string ByteArray.empty, .int .u32 0, .int .i64 0, .int .i64 0, .int .i64 0, .int .i64 0, .int .i64 0, .slice none 0 0, .int .i64 0] 41 :: F) ?_ ?_
 · refine ⟨_, _, ⟨_, 0, none, 0, Nat.zero_le _, rfl, (updS rfl (updS rfl (updS rfl (updS rfl rfl)))), rfl⟩, Sub.any⟩
 ·
  rintro mz fz lz ⟨f0, e, pf, cf, hk, hmz, rfl, rfl⟩
  subst mz
  try simp only [List.cons_append, List.nil_append]
  refine T.seq ?_
  refine T.seq ?_
  refine T.region ?_
  refine LW.q rfl (Qt.move rfl) ?_
  refine LW.q rfl (Qt.move rfl) ?_
  refine LW.q rfl (Qt.lss rfl rfl) ?_
  refine LW.done ?_
  refine T.condP rfl (fun hlt => ?_) (fun hlt => ?_)
  ·
   refine T.skip ?_
   refine T.seq ?_
   refine T.block ?_
   refine T.region ?_
   refine LW.q rfl (Qt.fieldAddr (off := 9) (by kernel_rfl) rfl) ?_
   first | refine LW.q rfl (Qt.load (by kernel_rfl) rfl rfl) ?_ | refine LW.q rfl (Qt.load (by kernel_rfl) rfl (map_at _ _ _ (by omega))) ?_ | refine LW.q rfl (Qt.load (by kernel_rfl) rfl (flat_cell0 _ _ _ (by intros; rfl) _ (by omega) (by rfl))) ?_ | refine LW.q rfl (Qt.load (by kernel_rfl) rfl (flat_cell _ _ _ (by intros; rfl) _ _ (by omega) (by rfl))) ?_ | refine LW.q rfl (Qt.load (by kernel_rfl) rfl (bytes_at _ _ (by omega))) ?_
   refine LW.q rfl (Qt.build [(0, 1), (1, 1), (2, 1), (3, 1), (4, 1), (5, 1)] [.int .i64 0, .string .empty, .int .i64 0, .int .i64 0, .bool false, .bool false] [_, _, _, _, _, _] [(0, _)] (by kernel_rfl) (by unfold zeroB; kernel_rfl) rfl rfl) ?_
   refine LW.e rfl (Ef.one [_, _, _, _, _, _] (e := 90) (sz := 6) (by kernel_rfl) ⟨.agg #[.int .i64 0, .string .empty, .int .i64 0, .int .i64 0, .bool false, .bool false], by kernel_rfl, rfl⟩ rfl rfl rfl (by omega) (by omega) ?_)
   intro g26
   refine LW.e rfl (Ef.append Rp.elemF rfl rfl (SrcOf.blk (by kernel_rfl) rfl (by simp [Value.oneCell'])) (by unfold maxLen; omega) (by omega) ?_)
   rintro p2 c2 hp2
   try simp only [List.cons_append, List.nil_append]
   rw [show (List.replicate e fa1).flatMap raC ++ [Value.int .i64 (-1), .string ByteArray.empty, .int .i64 0, .int .i64 0, .bool false, .bool false] = (List.replicate (e + 1) fa1).flatMap raC by rw [List.replicate_succ', List.flatMap_append]; rfl]
   refine LW.q rfl (Qt.fieldAddr (off := 9) (by kernel_rfl) rfl) ?_
   refine LW.e0 rfl (Ef.store1 (by kernel_rfl) rfl rfl rfl (by first | (simp; done) | (simp; omega)) ?_)
   try simp only [List.set_cons_zero, List.set_cons_succ]
   refine LW.done ?_
   refine T.region ?_
   refine LW.q rfl (Qt.move rfl) ?_
   refine LW.q rfl (Qt.add rfl rfl (wr64 (by omega) (by omega))) ?_
   refine LW.q rfl (Qt.assign rfl) ?_
   refine LW.done ?_
   refine ⟨_, ?_, _, ⟨_, e + 1, p2, c2, by omega, rfl, (updS rfl (updS rfl (updS rfl (updS rfl rfl)))), rfl⟩, Sub.any⟩
   first | omega | (simp; omega)
  ·
   obtain rfl : n = e := by omega
   refine T.exit ?_
   refine T.seq ?_
   refine T.region ?_
   first | refine LW.q rfl (Qt.loadAgg [_, _, _, _, _, _, _, _, _, _, _] (by kernel_rfl) rfl ⟨rfl, rfl, rfl, rfl, rfl, rfl, rfl, rfl, rfl, rfl, rfl, trivial⟩) ?_ | refine LW.q rfl (Qt.loadAgg [_, _, _, _, _, _, _, _, _, _, _] (by kernel_rfl) rfl (by exact rdl_flat _ _ _ (by intros; rfl) _ (by omega))) ?_
   refine LW.e0 rfl (Ef.store [_, _, _, _, _, _, _, _, _, _, _] (by kernel_rfl) rfl rfl rfl rfl (by simp) ?_)
   try simp only [splice, List.length_cons, List.length_nil, List.drop_succ_cons, List.cons_append, List.take_succ_cons, List.take_zero, List.drop_zero, List.nil_append, List.append_nil]
   refine LW.done ?_
   refine T.ret ?_
   exact ⟨.inl rfl, _, _, res [_] rfl ⟨rvA [_, _, _, _, _, _, _, _, _, _, _] (by kernel_rfl) rfl ⟨rfl, rfl, rfl, rfl, rfl, rfl, rfl, rfl, rfl, rfl, rfl, trivial⟩, trivial⟩, ⟨pf, cf, rfl, rfl⟩, Sub.any⟩
end Go.Proofs.YtegohgaccmkigaaGreatDoor

/- The document's pool: Flush. Conditions: sizes; the frames are in order. -/
set_option linter.unusedSimpArgs false
set_option linter.unusedVariables false
namespace Go.Proofs.YtegohgaccmkigaaGreatDoor
open Go.RowKit

/-- The frames, those of pages below k unchanged from now on. -/
def clnK (A : List Fa) (k : Nat) : List Fa := A.map fun x => if 0 ≤ x.page ∧ x.page < (k : Int) then { x with dirty := false } else x
theorem clnK_at (A : List Fa) (k j : Nat) : (clnK A k)[j]? = (A[j]?).map fun x => if 0 ≤ x.page ∧ x.page < (k : Int) then { x with dirty := false } else x := by unfold clnK; rw [List.getElem?_map]
theorem clnK_len (A : List Fa) (k : Nat) : (clnK A k).length = A.length := by simp [clnK]
theorem clnK_zero (A : List Fa) : clnK A 0 = A := by
  apply List.ext_getElem?; intro j; rw [clnK_at]
  cases A[j]? with
  | none => rfl
  | some x => simp only [Option.map_some]; rw [if_neg (by omega)]
theorem find_cln (A : List Fa) (k : Nat) (page : Int) : findA (clnK A k) page = findA A page := by
  unfold findA clnK
  split
  · rfl
  · rw [List.findIdx?_map]
    congr 1
    funext x
    simp only [Function.comp_def]
    split <;> rfl
/-- What is written for the pages below k. -/
def pgL (first : Nat) (A : List Fa) : Nat → List (Nat × List UInt8)
  | 0 => []
  | k + 1 => pgL first A k ++ match findA A k with
    | none => []
    | some i => match A[i]? with
      | none => []
      | some x => if x.dirty = true then [(first + k, x.b)] else []
theorem pgL_none {first k : Nat} {A : List Fa} (h : findA A k = none) : pgL first A (k + 1) = pgL first A k := by rw [pgL, h, List.append_nil]
theorem pgL_some {first k i : Nat} {A : List Fa} {x : Fa} (h : findA A k = some i) (hx : A[i]? = some x) : pgL first A (k + 1) = pgL first A k ++ (if x.dirty = true then [(first + k, x.b)] else []) := by rw [pgL, h]; dsimp only; rw [hx]
theorem cln_none {k : Nat} {A : List Fa} (h : findA A k = none) : clnK A (k + 1) = clnK A k := by
  apply List.ext_getElem?; intro j; rw [clnK_at, clnK_at]
  cases hx : A[j]? with
  | none => rfl
  | some x =>
    have := findA_none h (by omega) j x hx
    simp only [Option.map_some]
    by_cases hc : 0 ≤ x.page ∧ x.page < k
    · rw [if_pos hc, if_pos (by omega)]
    · rw [if_neg hc, if_neg (by omega)]
theorem cln_some {count n k i : Nat} {A : List Fa} (hF : FOk count n A) {x : Fa} (h : findA A k = some i) (hx : A[i]? = some x) : clnK A (k + 1) = (clnK A k).set i { x with dirty := false } := by
  obtain ⟨_, x2, hx2, hp, _⟩ := findA_some h
  rw [hx] at hx2
  cases hx2
  apply List.ext_getElem?; intro j
  have hil := (List.getElem?_eq_some_iff.1 hx).1
  by_cases e : i = j
  · subst e
    rw [List.getElem?_set_self (by rw [clnK_len]; exact hil), clnK_at, hx]
    simp only [Option.map_some]
    rw [if_pos (by omega)]
  · rw [List.getElem?_set_ne e, clnK_at, clnK_at]
    cases hy : A[j]? with
    | none => rfl
    | some y =>
      simp only [Option.map_some]
      by_cases hc : 0 ≤ y.page ∧ y.page < k
      · rw [if_pos hc, if_pos (by omega)]
      · rw [if_neg hc, if_neg (fun hc2 => e (hF.one i j x y hx hy (by omega) (by omega)))]
theorem cln_all {count n : Nat} {A : List Fa} (hF : FOk count n A) : clnK A count = cleanA A := by
  unfold clnK cleanA
  apply List.map_congr_left
  intro x hx
  rcases hF.fr x hx with rfl | h
  · rw [if_neg (by intro h; exact absurd h.1 (by decide))]
  · rw [if_pos ⟨h.1, h.2.1⟩]
theorem pgL_mem {count n first : Nat} {A : List Fa} (hF : FOk count n A) {p : Nat × List UInt8} : ∀ k, p ∈ pgL first A k ↔ ∃ (i : Nat) (x : Fa), A[i]? = some x ∧ x.dirty = true ∧ 0 ≤ x.page ∧ x.page < k ∧ p = (first + x.page.toNat, x.b)
  | 0 => by
    simp only [pgL, List.not_mem_nil, false_iff]
    rintro ⟨i, x, _, _, h1, h2, _⟩
    omega
  | k + 1 => by
    cases h : findA A k with
    | none =>
      rw [pgL_none h, pgL_mem hF k]
      constructor
      · rintro ⟨i, x, a, b, c, d, e⟩; exact ⟨i, x, a, b, c, by omega, e⟩
      · rintro ⟨i, x, a, b, c, d, e⟩; have := findA_none h (by omega) i x a; exact ⟨i, x, a, b, c, by omega, e⟩
    | some i =>
      obtain ⟨_, x, hx, hp, _⟩ := findA_some h
      rw [pgL_some h hx, List.mem_append, pgL_mem hF k]
      constructor
      · rintro (⟨i, x, a, b, c, d, e⟩ | hm)
        · exact ⟨i, x, a, b, c, by omega, e⟩
        · split at hm
          · simp only [List.mem_singleton] at hm
            exact ⟨i, x, hx, by assumption, by omega, by omega, by rw [hm, hp]; simp⟩
          · cases hm
      · rintro ⟨j, y, a, b, c, d, e⟩
        by_cases hk : y.page < k
        · exact .inl ⟨j, y, a, b, c, hk, e⟩
        · have := hF.one i j x y hx a (by omega) (by omega)
          subst this
          rw [hx] at a
          cases a
          rw [if_pos b]
          exact .inr (by rw [e, hp]; simp)
theorem pgL_nodup {count n first : Nat} {A : List Fa} (hF : FOk count n A) : ∀ k, ((pgL first A k).map Prod.fst).Nodup
  | 0 => List.nodup_nil
  | k + 1 => by
    cases h : findA A k with
    | none => rw [pgL_none h]; exact pgL_nodup hF k
    | some i =>
      obtain ⟨_, x, hx, hp, _⟩ := findA_some h
      rw [pgL_some h hx]
      split
      · rw [List.map_append, List.nodup_append]
        refine ⟨pgL_nodup hF k, by simp, ?_⟩
        intro u hu v hv
        simp only [List.map_cons, List.map_nil, List.mem_singleton] at hv
        obtain ⟨q, hq, rfl⟩ := List.mem_map.1 hu
        obtain ⟨j, y, a, b, c, d, rfl⟩ := (pgL_mem hF k).1 hq
        dsimp only
        omega
      · rw [List.append_nil]; exact pgL_nodup hF k
theorem pgL_len {first : Nat} {A : List Fa} : ∀ k, (pgL first A k).length ≤ k
  | 0 => Nat.le_refl _
  | k + 1 => by
    rw [pgL, List.length_append]
    have := pgL_len (first := first) (A := A) k
    split
    · simp; omega
    · split
      · simp; omega
      · split <;> simp <;> omega
theorem set_same {α : Type} {l : List α} {i : Nat} {x : α} (h : l[i]? = some x) : l.set i x = l := by
  apply List.ext_getElem?; intro j
  rw [List.getElem?_set]
  have := (List.getElem?_eq_some_iff.1 h).1
  by_cases e : i = j
  · subst e; rw [if_pos rfl, if_pos this, h]
  · rw [if_neg e]
theorem sync_rAmt (D : DD) : D.lays (fun i => some (rAmt true [] 0 0 i)) D.pend.length = D.sync.secs := rfl

set_option maxHeartbeats 8000000 in
set_option maxRecDepth 100000 in
theorem Rp.flush (B : Base) (p q : Option Addr) (a c N m : Nat) (W : Wl) (D : DD) (first count : Nat) (pf : Option Addr) (n cf hand : Nat) (A : List Fa) (hF : FOk count n A) (hdp : ∀ x ∈ A, x.dirty = true → 0 ≤ x.page) (hN : D.secs.length = N) (hm : D.pend.length = m) (hw : WOk W D) (ho : D.Ok) (hsec : first + count ≤ N) :
  Fn Tryz.prog B 35 #[rqV p q a c N m W first count pf n cf hand] [rS (.slice p N a) N D.secs, rW (.slice q m c) m D.pend, raR pf n cf A]
   (fun v l => ∃ p' a' pf' cf' W' D', v = rqV p' none a' 0 N 0 W' first count pf' n cf' hand ∧ W' = (forceP W D (dirtyMark A)).1 ∧ D' = (writesP (forceP W D (dirtyMark A)).2 (dirtyL first A)).sync ∧ l = [rS (.slice p' N a') N D'.secs, rW (.slice none 0 0) 0 [], raR pf' n cf' (cleanA A)]) := by
 have hn := hF.len
 have hn2 := hF.n2
 have hn1 := hF.n1
 have hwm := hw.max
 refine Fn.enter1 87 Tryz.func35 rfl rfl (Nat.le_of_ble_eq_true rfl) (fun F => ?_)
 try simp only [List.cons_append, List.nil_append]
 refine T.seq ?_
 refine T.region ?_
 refine LW.e rfl (Ef.box [_, _, _, _, _, _, _, _, _, _, _] rfl rfl ?_)
 intro g1
 refine LW.e rfl (Ef.alloc [.slice none 0 0, .slice none 0 0, .string .empty, .int .u32 0, .int .i64 0, .int .i64 0, .int .i64 0, .int .i64 0, .int .i64 0, .slice none 0 0, .int .i64 0] (by unfold zeroB; kernel_rfl) ?_)
 intro g2
 refine LW.done ?_
 refine T.seq ?_
 refine T.region ?_
 first | refine LW.q rfl (Qt.loadAgg [_, _, _, _, _, _, _, _, _, _, _] (by kernel_rfl) rfl ⟨rfl, rfl, rfl, rfl, rfl, rfl, rfl, rfl, rfl, rfl, rfl, trivial⟩) ?_ | refine LW.q rfl (Qt.loadAgg [_, _, _, _, _, _, _, _, _, _, _] (by kernel_rfl) rfl (by exact rdl_flat _ _ _ (by intros; rfl) _ (by omega))) ?_
 refine LW.e rfl (Ef.call (Rp.copied B p q a c N m W first count pf n cf hand A hn hn2) Tryz.func52 rfl rfl rfl ?_)
 rintro _ _ ⟨pf2, cf2, rfl, rfl⟩
 try simp only [List.cons_append, List.nil_append]
 refine LW.own (fun w ho => ?_)
 obtain ⟨gf, rfl⟩ : ∃ g, pf2 = some ⟨g, 0, none⟩ := (ho.slice_at (p := pf2) (m := n) (c := cf2)).2.1 (by omega)
 clear ho
 refine LW.e0 rfl (Ef.store [_, _, _, _, _, _, _, _, _, _, _] (by kernel_rfl) rfl rfl rfl rfl (by simp) ?_)
 try simp only [splice, List.length_cons, List.length_nil, List.drop_succ_cons, List.cons_append, List.take_succ_cons, List.take_zero, List.drop_zero, List.nil_append, List.append_nil]
 refine LW.done ?_
 refine T.seq ?_
 refine T.region ?_
 refine LW.q rfl (Qt.assign rfl) ?_
 refine LW.done ?_
 refine T.seq ?_
 refine T.seq ?_
 refine T.region ?_
 refine LW.q rfl (Qt.assign rfl) ?_
 refine LW.done ?_
 refine T.block ?_
 refine T.loop (fun mz fz lz => ∃ (f0 : Fr) (k : Nat) (mk : Int), (k ≤ n ∧ mk = dirtyMark (A.take k)) ∧ mz = n - k ∧ fz = (upd (upd (upd (upd f0 1 (.pointer (some ⟨g1, 0, none⟩))) 2 (.pointer (some ⟨g2, 0, none⟩))) 3 (.int .i64 mk)) 4 (.int .i64 k)) ∧ lz = rS (.slice p N a) N D.secs :: rW (.slice q m c) m D.pend :: raR (some ⟨gf, 0, none⟩) n cf2 A :: blk g1 (rqC p q a c N m W first count (some ⟨gf, 0, none⟩) n cf2 hand) 41 :: blk g2 [.slice none 0 0, .slice none 0 0, .string ByteArray.empty, .int .u32 0, .int .i64 0, .int .i64 0, .int .i64 0, .int .i64 0, .int .i64 0, .slice none 0 0, .int .i64 0] 41 :: F) ?_ ?_
 · refine ⟨_, _, ⟨_, 0, 0, ⟨Nat.zero_le _, rfl⟩, rfl, (updS rfl (updS rfl (updS rfl (updS rfl rfl)))), rfl⟩, Sub.any⟩
 ·
  rintro mz fz lz ⟨f0, k, mk, ⟨hk, hmk⟩, hmz, rfl, rfl⟩
  subst mz
  try simp only [List.cons_append, List.nil_append]
  refine T.seq ?_
  refine T.seq ?_
  refine T.region ?_
  refine LW.q rfl (Qt.move rfl) ?_
  refine LW.q rfl (Qt.fieldAddr (off := 9) (by kernel_rfl) rfl) ?_
  first | refine LW.q rfl (Qt.load (by kernel_rfl) rfl rfl) ?_ | refine LW.q rfl (Qt.load (by kernel_rfl) rfl (map_at _ _ _ (by omega))) ?_ | refine LW.q rfl (Qt.load (by kernel_rfl) rfl (flat_cell0 _ _ _ (by intros; rfl) _ (by omega) (by rfl))) ?_ | refine LW.q rfl (Qt.load (by kernel_rfl) rfl (flat_cell _ _ _ (by intros; rfl) _ _ (by omega) (by rfl))) ?_ | refine LW.q rfl (Qt.load (by kernel_rfl) rfl (bytes_at _ _ (by omega))) ?_
  refine LW.q rfl (Qt.len (e := 90) (sz := 6) (by kernel_rfl) rfl) ?_
  refine LW.q rfl (Qt.lss rfl rfl) ?_
  refine LW.done ?_
  refine T.condP rfl (fun hlt => ?_) (fun hlt => ?_)
  ·
   obtain ⟨y, hy⟩ : ∃ y, A[k]? = some y := ⟨_, List.getElem?_eq_getElem (by omega)⟩
   refine T.skip ?_
   refine T.seq ?_
   refine T.block ?_
   refine T.seq ?_
   refine T.region ?_
   refine LW.q rfl (Qt.fieldAddr (off := 9) (by kernel_rfl) rfl) ?_
   first | refine LW.q rfl (Qt.load (by kernel_rfl) rfl rfl) ?_ | refine LW.q rfl (Qt.load (by kernel_rfl) rfl (map_at _ _ _ (by omega))) ?_ | refine LW.q rfl (Qt.load (by kernel_rfl) rfl (flat_cell0 _ _ _ (by intros; rfl) _ (by omega) (by rfl))) ?_ | refine LW.q rfl (Qt.load (by kernel_rfl) rfl (flat_cell _ _ _ (by intros; rfl) _ _ (by omega) (by rfl))) ?_ | refine LW.q rfl (Qt.load (by kernel_rfl) rfl (bytes_at _ _ (by omega))) ?_
   refine LW.q rfl (Qt.move rfl) ?_
   refine LW.q rfl (Qt.index _ (e := 90) (sz := 6) (by kernel_rfl) rfl rfl rfl (by omega)) ?_
   refine LW.q rfl (Qt.fieldAddr (off := 4) (by kernel_rfl) rfl) ?_
   refine LW.q rfl (Qt.load (v := .bool y.dirty) (by kernel_rfl) rfl (ra_at hy 4 (by omega))) ?_
   refine LW.q rfl (Qt.move rfl) ?_
   refine LW.split (t := 22) rfl (fun hd => ?_) (fun hd => ?_)
   ·
    try replace hd := of_decide_eq_true hd
    refine LW.q rfl (Qt.fieldAddr (off := 9) (by kernel_rfl) rfl) ?_
    first | refine LW.q rfl (Qt.load (by kernel_rfl) rfl rfl) ?_ | refine LW.q rfl (Qt.load (by kernel_rfl) rfl (map_at _ _ _ (by omega))) ?_ | refine LW.q rfl (Qt.load (by kernel_rfl) rfl (flat_cell0 _ _ _ (by intros; rfl) _ (by omega) (by rfl))) ?_ | refine LW.q rfl (Qt.load (by kernel_rfl) rfl (flat_cell _ _ _ (by intros; rfl) _ _ (by omega) (by rfl))) ?_ | refine LW.q rfl (Qt.load (by kernel_rfl) rfl (bytes_at _ _ (by omega))) ?_
    refine LW.q rfl (Qt.move rfl) ?_
    refine LW.q rfl (Qt.index _ (e := 90) (sz := 6) (by kernel_rfl) rfl rfl rfl (by omega)) ?_
    refine LW.q rfl (Qt.fieldAddr (off := 2) (by kernel_rfl) rfl) ?_
    refine LW.q rfl (Qt.load (v := .int .i64 y.mark) (by kernel_rfl) rfl (ra_at hy 2 (by omega))) ?_
    refine LW.q rfl (Qt.move rfl) ?_
    refine LW.q rfl (Qt.gtr rfl rfl) ?_
    refine LW.q rfl (Qt.pick rfl rfl) ?_
    refine LW.done ?_
    refine T.condP rfl (fun hgt => ?_) (fun hgt => ?_)
    ·
     refine T.region ?_
     refine LW.q rfl (Qt.fieldAddr (off := 9) (by kernel_rfl) rfl) ?_
     first | refine LW.q rfl (Qt.load (by kernel_rfl) rfl rfl) ?_ | refine LW.q rfl (Qt.load (by kernel_rfl) rfl (map_at _ _ _ (by omega))) ?_ | refine LW.q rfl (Qt.load (by kernel_rfl) rfl (flat_cell0 _ _ _ (by intros; rfl) _ (by omega) (by rfl))) ?_ | refine LW.q rfl (Qt.load (by kernel_rfl) rfl (flat_cell _ _ _ (by intros; rfl) _ _ (by omega) (by rfl))) ?_ | refine LW.q rfl (Qt.load (by kernel_rfl) rfl (bytes_at _ _ (by omega))) ?_
     refine LW.q rfl (Qt.move rfl) ?_
     refine LW.q rfl (Qt.index _ (e := 90) (sz := 6) (by kernel_rfl) rfl rfl rfl (by omega)) ?_
     refine LW.q rfl (Qt.fieldAddr (off := 2) (by kernel_rfl) rfl) ?_
     refine LW.q rfl (Qt.load (v := .int .i64 y.mark) (by kernel_rfl) rfl (ra_at hy 2 (by omega))) ?_
     refine LW.q rfl (Qt.assign rfl) ?_
     refine LW.done ?_
     refine T.region ?_
     refine LW.q rfl (Qt.move rfl) ?_
     refine LW.q rfl (Qt.add rfl rfl (wr64 (by omega) (by omega))) ?_
     refine LW.q rfl (Qt.assign rfl) ?_
     refine LW.done ?_
     refine ⟨_, ?_, _, ⟨_, k + 1, y.mark, ⟨by omega, by rw [mark_snoc hy, if_pos hd, ← hmk]; omega⟩, rfl, (updS rfl (updS rfl (updS rfl (updS rfl rfl)))), rfl⟩, Sub.any⟩
     first | omega | (simp; omega)
    ·
     refine T.skip ?_
     refine T.region ?_
     refine LW.q rfl (Qt.move rfl) ?_
     refine LW.q rfl (Qt.add rfl rfl (wr64 (by omega) (by omega))) ?_
     refine LW.q rfl (Qt.assign rfl) ?_
     refine LW.done ?_
     refine ⟨_, ?_, _, ⟨_, k + 1, mk, ⟨by omega, by rw [mark_snoc hy, if_pos hd, ← hmk]; omega⟩, rfl, (updS rfl (updS rfl (updS rfl (updS rfl rfl)))), rfl⟩, Sub.any⟩
     first | omega | (simp; omega)
   ·
    try replace hd := of_decide_eq_false hd
    refine LW.s rfl ?_
    refine LW.s rfl ?_
    refine LW.s rfl ?_
    refine LW.s rfl ?_
    refine LW.s rfl ?_
    refine LW.s rfl ?_
    refine LW.s rfl ?_
    refine LW.s rfl ?_
    refine LW.q rfl (Qt.pick rfl rfl) ?_
    refine LW.done ?_
    first | refine T.condF rfl ?_ | refine T.condPF rfl (by omega) ?_ | refine T.condBF rfl (by omega) ?_
    refine T.skip ?_
    refine T.region ?_
    refine LW.q rfl (Qt.move rfl) ?_
    refine LW.q rfl (Qt.add rfl rfl (wr64 (by omega) (by omega))) ?_
    refine LW.q rfl (Qt.assign rfl) ?_
    refine LW.done ?_
    refine ⟨_, ?_, _, ⟨_, k + 1, mk, ⟨by omega, by rw [mark_snoc hy, if_neg (by rw [hd]; simp)]; exact hmk⟩, rfl, (updS rfl (updS rfl (updS rfl (updS rfl rfl)))), rfl⟩, Sub.any⟩
    first | omega | (simp; omega)
  ·
   obtain rfl : n = k := by omega
   rw [show A.take n = A by rw [← hn, List.take_length]] at hmk
   subst hmk
   obtain ⟨f1, f2, f3, f4, f5, f6, f7⟩ := hw.force ho (dirtyMark A) hw.room
   refine T.exit ?_
   refine T.seq ?_
   refine T.region ?_
   first | refine LW.q rfl (Qt.loadAgg [_, _, _, _, _, _, _, _, _, _, _] (by kernel_rfl) rfl ⟨rfl, rfl, rfl, rfl, rfl, rfl, rfl, rfl, rfl, rfl, rfl, trivial⟩) ?_ | refine LW.q rfl (Qt.loadAgg [_, _, _, _, _, _, _, _, _, _, _] (by kernel_rfl) rfl (by exact rdl_flat _ _ _ (by intros; rfl) _ (by omega))) ?_
   refine LW.q rfl (Qt.move rfl) ?_
   refine LW.e rfl (Ef.call (Rp.force B p q a c N m W D first count (some ⟨gf, 0, none⟩) n cf2 hand (dirtyMark A) hN hm ho hw) Tryz.func60 rfl rfl rfl ?_)
   rintro _ _ ⟨p3, q3, a3, c3, m3, hm3, rfl, rfl⟩
   try simp only [List.cons_append, List.nil_append]
   obtain ⟨W2, hW2⟩ : ∃ W2, (forceP W D (dirtyMark A)).1 = W2 := ⟨_, rfl⟩
   obtain ⟨D2, hD2⟩ : ∃ D2, (forceP W D (dirtyMark A)).2 = D2 := ⟨_, rfl⟩
   rw [hW2, hD2] at f1
   rw [hD2] at f2 f3 f4 hm3
   rw [hW2, hD2]
   refine LW.e0 rfl (Ef.store [_, _, _, _, _, _, _, _, _, _, _] (by kernel_rfl) rfl rfl rfl rfl (by simp) ?_)
   try simp only [splice, List.length_cons, List.length_nil, List.drop_succ_cons, List.cons_append, List.take_succ_cons, List.take_zero, List.drop_zero, List.nil_append, List.append_nil]
   refine LW.done ?_
   refine T.seq ?_
   refine T.seq ?_
   refine T.region ?_
   refine LW.q rfl (Qt.assign rfl) ?_
   refine LW.done ?_
   refine T.block ?_
   have hwr : ∀ (k : Nat) (q : Nat × List UInt8), k ≤ count → q ∈ pgL first A k → q.1 < D2.secs.length ∧ q.2.length = 256 := fun k q hkc hq => by obtain ⟨i, x, h1, h2, h3, h4, rfl⟩ := (pgL_mem hF k).1 hq; exact ⟨by dsimp only; omega, (fr_ok hF h1 h3).2.2.1⟩
   rw [show raR (some ⟨gf, 0, none⟩) n cf2 A = raR (some ⟨gf, 0, none⟩) n cf2 (clnK A 0) by rw [clnK_zero], show D2.secs = (writesP D2 (pgL first A 0)).secs from rfl, show D2.pend = (writesP D2 (pgL first A 0)).pend from rfl]
   refine T.loop (fun mz fz lz => ∃ (f0 : Fr) (k : Nat) (p q : Option Addr) (a c m : Nat), (k ≤ count ∧ (writesP D2 (pgL first A k)).pend.length = m) ∧ mz = count - k ∧ fz = (upd (upd (upd f0 1 (.pointer (some ⟨g1, 0, none⟩))) 2 (.pointer (some ⟨g2, 0, none⟩))) 5 (.int .i64 k)) ∧ lz = rS (.slice p N a) N (writesP D2 (pgL first A k)).secs :: rW (.slice q m c) m (writesP D2 (pgL first A k)).pend :: raR (some ⟨gf, 0, none⟩) n cf2 (clnK A k) :: blk g1 (rqC p q a c N m W2 first count (some ⟨gf, 0, none⟩) n cf2 hand) 41 :: blk g2 [.slice none 0 0, .slice none 0 0, .string ByteArray.empty, .int .u32 0, .int .i64 0, .int .i64 0, .int .i64 0, .int .i64 0, .int .i64 0, .slice none 0 0, .int .i64 0] 41 :: F) ?_ ?_
   · refine ⟨_, _, ⟨_, 0, p3, q3, a3, c3, m3, ⟨Nat.zero_le _, hm3⟩, rfl, (updS rfl (updS rfl (updS rfl rfl))), rfl⟩, Sub.any⟩
   ·
    rintro mz fz lz ⟨f0, k, p, q, a, c, m, ⟨hk2, hm4⟩, hmz, rfl, rfl⟩
    subst mz
    try simp only [List.cons_append, List.nil_append]
    refine T.seq ?_
    refine T.seq ?_
    refine T.region ?_
    refine LW.q rfl (Qt.move rfl) ?_
    refine LW.q rfl (Qt.fieldAddr (off := 8) (by kernel_rfl) rfl) ?_
    first | refine LW.q rfl (Qt.load (by kernel_rfl) rfl rfl) ?_ | refine LW.q rfl (Qt.load (by kernel_rfl) rfl (map_at _ _ _ (by omega))) ?_ | refine LW.q rfl (Qt.load (by kernel_rfl) rfl (flat_cell0 _ _ _ (by intros; rfl) _ (by omega) (by rfl))) ?_ | refine LW.q rfl (Qt.load (by kernel_rfl) rfl (flat_cell _ _ _ (by intros; rfl) _ _ (by omega) (by rfl))) ?_ | refine LW.q rfl (Qt.load (by kernel_rfl) rfl (bytes_at _ _ (by omega))) ?_
    refine LW.q rfl (Qt.lss rfl rfl) ?_
    refine LW.done ?_
    refine T.condP rfl (fun hlt2 => ?_) (fun hlt2 => ?_)
    ·
     obtain ⟨w1, w2, w3⟩ := writes_ok f2 (fun q hq => hwr k q hk2 hq)
     have hwl := pgL_len (first := first) (A := A) k
     have hwroom := f1.room
     have hwmx := f1.max
     refine T.skip ?_
     refine T.seq ?_
     refine T.block ?_
     refine T.seq ?_
     refine T.region ?_
     first | refine LW.q rfl (Qt.loadAgg [_, _, _, _, _, _, _, _, _, _, _] (by kernel_rfl) rfl ⟨rfl, rfl, rfl, rfl, rfl, rfl, rfl, rfl, rfl, rfl, rfl, trivial⟩) ?_ | refine LW.q rfl (Qt.loadAgg [_, _, _, _, _, _, _, _, _, _, _] (by kernel_rfl) rfl (by exact rdl_flat _ _ _ (by intros; rfl) _ (by omega))) ?_
     refine LW.q rfl (Qt.move rfl) ?_
     refine LW.e rfl (Ef.call (Rp.find B p q a c N m W2 first count (some ⟨gf, 0, none⟩) n cf2 hand (clnK A k) (by rw [clnK_len]; exact hn) hn2 k) Tryz.func53 rfl rfl rfl ?_)
     rintro _ _ ⟨rfl, rfl⟩
     try simp only [List.cons_append, List.nil_append]
     refine LW.q rfl (Qt.assign rfl) ?_
     refine LW.done ?_
     refine T.seq ?_
     refine T.region ?_
     refine LW.q rfl (Qt.move rfl) ?_
     refine LW.q rfl (Qt.geq rfl rfl) ?_
     refine LW.q rfl (Qt.move rfl) ?_
     by_cases hno : findA A k = none
     ·
      rw [show findI (clnK A k) k = -1 by unfold findI; rw [find_cln, hno]]
      first | refine LW.gF (t := 52) rfl rfl ?_ | refine LW.gF (t := 52) rfl (decide_eq_false (by omega)) ?_ | refine LW.gF (t := 52) rfl (by omega) ?_
      refine LW.s rfl ?_
      refine LW.s rfl ?_
      refine LW.s rfl ?_
      refine LW.s rfl ?_
      refine LW.s rfl ?_
      refine LW.s rfl ?_
      refine LW.q rfl (Qt.pick rfl rfl) ?_
      refine LW.done ?_
      first | refine T.condF rfl ?_ | refine T.condPF rfl (by omega) ?_ | refine T.condBF rfl (by omega) ?_
      refine T.skip ?_
      refine T.region ?_
      refine LW.q rfl (Qt.move rfl) ?_
      refine LW.q rfl (Qt.add rfl rfl (wr64 (by omega) (by omega))) ?_
      refine LW.q rfl (Qt.assign rfl) ?_
      refine LW.done ?_
      refine ⟨_, ?_, _, ⟨_, k + 1, p, q, a, c, m, ⟨by omega, by rw [pgL_none hno]; exact hm4⟩, rfl, (updS rfl (updS rfl (updS rfl rfl))), rfl⟩, (by rw [pgL_none hno, cln_none hno]; exact Sub.any)⟩
      first | omega | (simp; omega)
     ·
      obtain ⟨i, hi⟩ := Option.ne_none_iff_exists'.1 hno
      obtain ⟨h0, x, hx, hxp, _⟩ := findA_some hi
      have hil := (List.getElem?_eq_some_iff.1 hx).1
      have hxo := fr_ok hF hx (by omega)
      have hxc : (clnK A k)[i]? = some x := by rw [clnK_at, hx]; simp only [Option.map_some]; rw [if_neg (by omega)]
      have hcl := cln_some hF hi hx
      have hcll := clnK_len A k
      have hfl := ra_len (clnK A k)
      rw [show findI (clnK A k) k = (i : Int) by unfold findI; rw [find_cln, hi]]
      first | refine LW.gT (t := 52) rfl rfl ?_ | refine LW.gT (t := 52) rfl (decide_eq_true (by omega)) ?_ | refine LW.gT (t := 52) rfl (by omega) ?_
      refine LW.q rfl (Qt.fieldAddr (off := 9) (by kernel_rfl) rfl) ?_
      first | refine LW.q rfl (Qt.load (by kernel_rfl) rfl rfl) ?_ | refine LW.q rfl (Qt.load (by kernel_rfl) rfl (map_at _ _ _ (by omega))) ?_ | refine LW.q rfl (Qt.load (by kernel_rfl) rfl (flat_cell0 _ _ _ (by intros; rfl) _ (by omega) (by rfl))) ?_ | refine LW.q rfl (Qt.load (by kernel_rfl) rfl (flat_cell _ _ _ (by intros; rfl) _ _ (by omega) (by rfl))) ?_ | refine LW.q rfl (Qt.load (by kernel_rfl) rfl (bytes_at _ _ (by omega))) ?_
      refine LW.q rfl (Qt.move rfl) ?_
      refine LW.q rfl (Qt.index _ (e := 90) (sz := 6) (by kernel_rfl) rfl rfl rfl (by omega)) ?_
      refine LW.q rfl (Qt.fieldAddr (off := 4) (by kernel_rfl) rfl) ?_
      refine LW.q rfl (Qt.load (v := .bool x.dirty) (by kernel_rfl) rfl (ra_at hxc 4 (by omega))) ?_
      refine LW.q rfl (Qt.pick rfl rfl) ?_
      refine LW.done ?_
      refine T.cond rfl (fun hd => ?_) (fun hd => ?_)
      ·
       have hps := pgL_some (first := first) hi hx
       rw [if_pos hd] at hps
       refine T.seq ?_
       refine T.draw 18 ([raR (some ⟨gf, 0, none⟩) n cf2 (clnK A k)]) (by kernel_rfl) (Nat.le_of_ble_eq_true rfl) (by kernel_rfl) ?_
       refine RW.q 0 rfl rfl (by kernel_rfl) Sub.any (Qt.fieldAddr0 (by kernel_rfl) rfl) ?_
       refine RW.q 2 rfl rfl (by kernel_rfl) Sub.any (Qt.fieldAddr (off := 7) (by kernel_rfl) rfl) ?_
       refine RW.q 4 rfl rfl (by kernel_rfl) Sub.any (Qt.move rfl) ?_
       refine RW.q 6 rfl rfl (by kernel_rfl) Sub.any (Qt.fieldAddr (off := 9) (by kernel_rfl) rfl) ?_
       refine RW.q 8 rfl rfl (by kernel_rfl) Sub.any (Qt.move rfl) ?_
       refine RW.all [1, 3, 7] (by kernel_rfl) (List.forall_mem_cons.2 ⟨?_, List.forall_mem_cons.2 ⟨?_, List.forall_mem_cons.2 ⟨?_, List.forall_mem_nil _⟩⟩⟩)
       ·
        first | refine RO.eS rfl rfl (Ef.qt (Qt.loadAgg [_, _] (by kernel_rfl) rfl ⟨rfl, rfl, trivial⟩) ?_) | refine RO.eS rfl rfl (Ef.qt (Qt.loadAgg [_, _] (by kernel_rfl) rfl (by exact rdl_flat _ _ _ (by intros; rfl) _ (by omega))) ?_)
        refine ⟨Sub.any, ?_⟩
        refine RW.all [3, 7] (by kernel_rfl) (List.forall_mem_cons.2 ⟨?_, List.forall_mem_cons.2 ⟨?_, List.forall_mem_nil _⟩⟩)
        ·
         first | refine RO.eS rfl rfl (Ef.qt (Qt.load (by kernel_rfl) rfl rfl) ?_) | refine RO.eS rfl rfl (Ef.qt (Qt.load (by kernel_rfl) rfl (map_at _ _ _ (by omega))) ?_) | refine RO.eS rfl rfl (Ef.qt (Qt.load (by kernel_rfl) rfl (flat_cell0 _ _ _ (by intros; rfl) _ (by omega) (by rfl))) ?_) | refine RO.eS rfl rfl (Ef.qt (Qt.load (by kernel_rfl) rfl (flat_cell _ _ _ (by intros; rfl) _ _ (by omega) (by rfl))) ?_) | refine RO.eS rfl rfl (Ef.qt (Qt.load (by kernel_rfl) rfl (bytes_at _ _ (by omega))) ?_)
         refine ⟨Sub.any, ?_⟩
         refine RW.q 5 rfl rfl (by kernel_rfl) Sub.any (Qt.add rfl rfl (wr64 (by omega) (by omega))) ?_
         refine RW.one 7 (by kernel_rfl) ?_
         first | refine RO.eS rfl rfl (Ef.qt (Qt.load (by kernel_rfl) rfl rfl) ?_) | refine RO.eS rfl rfl (Ef.qt (Qt.load (by kernel_rfl) rfl (map_at _ _ _ (by omega))) ?_) | refine RO.eS rfl rfl (Ef.qt (Qt.load (by kernel_rfl) rfl (flat_cell0 _ _ _ (by intros; rfl) _ (by omega) (by rfl))) ?_) | refine RO.eS rfl rfl (Ef.qt (Qt.load (by kernel_rfl) rfl (flat_cell _ _ _ (by intros; rfl) _ _ (by omega) (by rfl))) ?_) | refine RO.eS rfl rfl (Ef.qt (Qt.load (by kernel_rfl) rfl (bytes_at _ _ (by omega))) ?_)
         refine ⟨Sub.any, ?_⟩
         refine RW.q 9 rfl rfl (by kernel_rfl) Sub.any (Qt.index _ (e := 90) (sz := 6) (by kernel_rfl) rfl rfl rfl (by omega)) ?_
         refine RW.q 10 rfl rfl (by kernel_rfl) Sub.any (Qt.fieldAddr (off := 1) (by kernel_rfl) rfl) ?_
         refine RW.q 11 rfl rfl (by kernel_rfl) Sub.any (Qt.load (v := strW x.b) (by kernel_rfl) rfl (ra_at hxc 1 (by omega))) ?_
         refine RW.one 12 (by kernel_rfl) ?_
         refine RO.eS rfl rfl (Ef.call (Rf.put B p q a c N m (first + k) (first + k) (by omega) x.b (writesP D2 (pgL first A k)).secs (writesP D2 (pgL first A k)).pend (by omega) (by omega) (by omega) hxo.2.2.1) Tryz.func27 rfl rfl rfl ?_)
         rintro _ _ ⟨p4, a4, q4, c4, rfl, rfl⟩
         try simp only [List.cons_append, List.nil_append]
         refine ⟨Sub.any, ?_⟩
         refine RW.q 13 rfl rfl (by kernel_rfl) Sub.any (Qt.move rfl) ?_
         refine RW.q 14 rfl rfl (by kernel_rfl) Sub.any (Qt.extract rfl rfl) ?_
         refine RW.q 15 rfl rfl (by kernel_rfl) Sub.any (Qt.extract rfl rfl) ?_
         refine RW.q 16 rfl rfl (by kernel_rfl) Sub.any (Qt.fieldAddr0 (by kernel_rfl) rfl) ?_
         refine RW.one 17 (by kernel_rfl) ?_
         refine RO.eS0 rfl rfl (Ef.store [_, _] (by kernel_rfl) rfl rfl rfl rfl (by simp) ?_)
         try simp only [splice, List.length_cons, List.length_nil, List.drop_succ_cons, List.cons_append, List.take_succ_cons, List.take_zero, List.drop_zero, List.nil_append, List.append_nil]
         refine ⟨Sub.any, ?_⟩
         refine RW.done (by rfl) ?_
         simp only [List.drop_succ_cons, List.drop_zero, List.drop_nil]
         refine LW.done ?_
         refine T.region ?_
         refine LW.q rfl (Qt.fieldAddr (off := 9) (by kernel_rfl) rfl) ?_
         first | refine LW.q rfl (Qt.load (by kernel_rfl) rfl rfl) ?_ | refine LW.q rfl (Qt.load (by kernel_rfl) rfl (map_at _ _ _ (by omega))) ?_ | refine LW.q rfl (Qt.load (by kernel_rfl) rfl (flat_cell0 _ _ _ (by intros; rfl) _ (by omega) (by rfl))) ?_ | refine LW.q rfl (Qt.load (by kernel_rfl) rfl (flat_cell _ _ _ (by intros; rfl) _ _ (by omega) (by rfl))) ?_ | refine LW.q rfl (Qt.load (by kernel_rfl) rfl (bytes_at _ _ (by omega))) ?_
         refine LW.q rfl (Qt.move rfl) ?_
         refine LW.q rfl (Qt.index _ (e := 90) (sz := 6) (by kernel_rfl) rfl rfl rfl (by omega)) ?_
         refine LW.q rfl (Qt.fieldAddr (off := 4) (by kernel_rfl) rfl) ?_
         refine LW.e0 rfl (Ef.store1 (by kernel_rfl) rfl rfl rfl (by omega) ?_)
         rw [ra_set (y := { x with dirty := false }) hxc 4 (by omega) _ rfl, ← hcl]
         refine LW.done ?_
         refine T.region ?_
         refine LW.q rfl (Qt.move rfl) ?_
         refine LW.q rfl (Qt.add rfl rfl (wr64 (by omega) (by omega))) ?_
         refine LW.q rfl (Qt.assign rfl) ?_
         refine LW.done ?_
         refine ⟨_, ?_, _, ⟨_, k + 1, p4, q4, a4, c4, m + 1, ⟨by omega, by rw [hps, writesP_snoc]; simp [DD.write, hm4]⟩, rfl, (updS rfl (updS rfl (updS rfl rfl))), rfl⟩, (by rw [hps, writesP_snoc]; simp only [DD.write]; exact Sub.any)⟩
         first | omega | (simp; omega)
        ·
         first | refine RO.eS rfl rfl (Ef.qt (Qt.load (by kernel_rfl) rfl rfl) ?_) | refine RO.eS rfl rfl (Ef.qt (Qt.load (by kernel_rfl) rfl (map_at _ _ _ (by omega))) ?_) | refine RO.eS rfl rfl (Ef.qt (Qt.load (by kernel_rfl) rfl (flat_cell0 _ _ _ (by intros; rfl) _ (by omega) (by rfl))) ?_) | refine RO.eS rfl rfl (Ef.qt (Qt.load (by kernel_rfl) rfl (flat_cell _ _ _ (by intros; rfl) _ _ (by omega) (by rfl))) ?_) | refine RO.eS rfl rfl (Ef.qt (Qt.load (by kernel_rfl) rfl (bytes_at _ _ (by omega))) ?_)
         refine ⟨Sub.any, ?_⟩
         refine RW.q 9 rfl rfl (by kernel_rfl) Sub.any (Qt.index _ (e := 90) (sz := 6) (by kernel_rfl) rfl rfl rfl (by omega)) ?_
         refine RW.q 10 rfl rfl (by kernel_rfl) Sub.any (Qt.fieldAddr (off := 1) (by kernel_rfl) rfl) ?_
         refine RW.q 11 rfl rfl (by kernel_rfl) Sub.any (Qt.load (v := strW x.b) (by kernel_rfl) rfl (ra_at hxc 1 (by omega))) ?_
         refine RW.one 3 (by kernel_rfl) ?_
         first | refine RO.eS rfl rfl (Ef.qt (Qt.load (by kernel_rfl) rfl rfl) ?_) | refine RO.eS rfl rfl (Ef.qt (Qt.load (by kernel_rfl) rfl (map_at _ _ _ (by omega))) ?_) | refine RO.eS rfl rfl (Ef.qt (Qt.load (by kernel_rfl) rfl (flat_cell0 _ _ _ (by intros; rfl) _ (by omega) (by rfl))) ?_) | refine RO.eS rfl rfl (Ef.qt (Qt.load (by kernel_rfl) rfl (flat_cell _ _ _ (by intros; rfl) _ _ (by omega) (by rfl))) ?_) | refine RO.eS rfl rfl (Ef.qt (Qt.load (by kernel_rfl) rfl (bytes_at _ _ (by omega))) ?_)
         refine ⟨Sub.any, ?_⟩
         refine RW.q 5 rfl rfl (by kernel_rfl) Sub.any (Qt.add rfl rfl (wr64 (by omega) (by omega))) ?_
         refine RW.one 12 (by kernel_rfl) ?_
         refine RO.eS rfl rfl (Ef.call (Rf.put B p q a c N m (first + k) (first + k) (by omega) x.b (writesP D2 (pgL first A k)).secs (writesP D2 (pgL first A k)).pend (by omega) (by omega) (by omega) hxo.2.2.1) Tryz.func27 rfl rfl rfl ?_)
         rintro _ _ ⟨p4, a4, q4, c4, rfl, rfl⟩
         try simp only [List.cons_append, List.nil_append]
         refine ⟨Sub.any, ?_⟩
         refine RW.q 13 rfl rfl (by kernel_rfl) Sub.any (Qt.move rfl) ?_
         refine RW.q 14 rfl rfl (by kernel_rfl) Sub.any (Qt.extract rfl rfl) ?_
         refine RW.q 15 rfl rfl (by kernel_rfl) Sub.any (Qt.extract rfl rfl) ?_
         refine RW.q 16 rfl rfl (by kernel_rfl) Sub.any (Qt.fieldAddr0 (by kernel_rfl) rfl) ?_
         refine RW.one 17 (by kernel_rfl) ?_
         refine RO.eS0 rfl rfl (Ef.store [_, _] (by kernel_rfl) rfl rfl rfl rfl (by simp) ?_)
         try simp only [splice, List.length_cons, List.length_nil, List.drop_succ_cons, List.cons_append, List.take_succ_cons, List.take_zero, List.drop_zero, List.nil_append, List.append_nil]
         refine ⟨Sub.any, ?_⟩
         refine RW.done (by rfl) ?_
         simp only [List.drop_succ_cons, List.drop_zero, List.drop_nil]
         refine LW.done ?_
         refine T.region ?_
         refine LW.q rfl (Qt.fieldAddr (off := 9) (by kernel_rfl) rfl) ?_
         first | refine LW.q rfl (Qt.load (by kernel_rfl) rfl rfl) ?_ | refine LW.q rfl (Qt.load (by kernel_rfl) rfl (map_at _ _ _ (by omega))) ?_ | refine LW.q rfl (Qt.load (by kernel_rfl) rfl (flat_cell0 _ _ _ (by intros; rfl) _ (by omega) (by rfl))) ?_ | refine LW.q rfl (Qt.load (by kernel_rfl) rfl (flat_cell _ _ _ (by intros; rfl) _ _ (by omega) (by rfl))) ?_ | refine LW.q rfl (Qt.load (by kernel_rfl) rfl (bytes_at _ _ (by omega))) ?_
         refine LW.q rfl (Qt.move rfl) ?_
         refine LW.q rfl (Qt.index _ (e := 90) (sz := 6) (by kernel_rfl) rfl rfl rfl (by omega)) ?_
         refine LW.q rfl (Qt.fieldAddr (off := 4) (by kernel_rfl) rfl) ?_
         refine LW.e0 rfl (Ef.store1 (by kernel_rfl) rfl rfl rfl (by omega) ?_)
         rw [ra_set (y := { x with dirty := false }) hxc 4 (by omega) _ rfl, ← hcl]
         refine LW.done ?_
         refine T.region ?_
         refine LW.q rfl (Qt.move rfl) ?_
         refine LW.q rfl (Qt.add rfl rfl (wr64 (by omega) (by omega))) ?_
         refine LW.q rfl (Qt.assign rfl) ?_
         refine LW.done ?_
         refine ⟨_, ?_, _, ⟨_, k + 1, p4, q4, a4, c4, m + 1, ⟨by omega, by rw [hps, writesP_snoc]; simp [DD.write, hm4]⟩, rfl, (updS rfl (updS rfl (updS rfl rfl))), rfl⟩, (by rw [hps, writesP_snoc]; simp only [DD.write]; exact Sub.any)⟩
         first | omega | (simp; omega)
       ·
        first | refine RO.eS rfl rfl (Ef.qt (Qt.load (by kernel_rfl) rfl rfl) ?_) | refine RO.eS rfl rfl (Ef.qt (Qt.load (by kernel_rfl) rfl (map_at _ _ _ (by omega))) ?_) | refine RO.eS rfl rfl (Ef.qt (Qt.load (by kernel_rfl) rfl (flat_cell0 _ _ _ (by intros; rfl) _ (by omega) (by rfl))) ?_) | refine RO.eS rfl rfl (Ef.qt (Qt.load (by kernel_rfl) rfl (flat_cell _ _ _ (by intros; rfl) _ _ (by omega) (by rfl))) ?_) | refine RO.eS rfl rfl (Ef.qt (Qt.load (by kernel_rfl) rfl (bytes_at _ _ (by omega))) ?_)
        refine ⟨Sub.any, ?_⟩
        refine RW.q 5 rfl rfl (by kernel_rfl) Sub.any (Qt.add rfl rfl (wr64 (by omega) (by omega))) ?_
        refine RW.all [1, 7] (by kernel_rfl) (List.forall_mem_cons.2 ⟨?_, List.forall_mem_cons.2 ⟨?_, List.forall_mem_nil _⟩⟩)
        ·
         first | refine RO.eS rfl rfl (Ef.qt (Qt.loadAgg [_, _] (by kernel_rfl) rfl ⟨rfl, rfl, trivial⟩) ?_) | refine RO.eS rfl rfl (Ef.qt (Qt.loadAgg [_, _] (by kernel_rfl) rfl (by exact rdl_flat _ _ _ (by intros; rfl) _ (by omega))) ?_)
         refine ⟨Sub.any, ?_⟩
         refine RW.one 7 (by kernel_rfl) ?_
         first | refine RO.eS rfl rfl (Ef.qt (Qt.load (by kernel_rfl) rfl rfl) ?_) | refine RO.eS rfl rfl (Ef.qt (Qt.load (by kernel_rfl) rfl (map_at _ _ _ (by omega))) ?_) | refine RO.eS rfl rfl (Ef.qt (Qt.load (by kernel_rfl) rfl (flat_cell0 _ _ _ (by intros; rfl) _ (by omega) (by rfl))) ?_) | refine RO.eS rfl rfl (Ef.qt (Qt.load (by kernel_rfl) rfl (flat_cell _ _ _ (by intros; rfl) _ _ (by omega) (by rfl))) ?_) | refine RO.eS rfl rfl (Ef.qt (Qt.load (by kernel_rfl) rfl (bytes_at _ _ (by omega))) ?_)
         refine ⟨Sub.any, ?_⟩
         refine RW.q 9 rfl rfl (by kernel_rfl) Sub.any (Qt.index _ (e := 90) (sz := 6) (by kernel_rfl) rfl rfl rfl (by omega)) ?_
         refine RW.q 10 rfl rfl (by kernel_rfl) Sub.any (Qt.fieldAddr (off := 1) (by kernel_rfl) rfl) ?_
         refine RW.q 11 rfl rfl (by kernel_rfl) Sub.any (Qt.load (v := strW x.b) (by kernel_rfl) rfl (ra_at hxc 1 (by omega))) ?_
         refine RW.one 12 (by kernel_rfl) ?_
         refine RO.eS rfl rfl (Ef.call (Rf.put B p q a c N m (first + k) (first + k) (by omega) x.b (writesP D2 (pgL first A k)).secs (writesP D2 (pgL first A k)).pend (by omega) (by omega) (by omega) hxo.2.2.1) Tryz.func27 rfl rfl rfl ?_)
         rintro _ _ ⟨p4, a4, q4, c4, rfl, rfl⟩
         try simp only [List.cons_append, List.nil_append]
         refine ⟨Sub.any, ?_⟩
         refine RW.q 13 rfl rfl (by kernel_rfl) Sub.any (Qt.move rfl) ?_
         refine RW.q 14 rfl rfl (by kernel_rfl) Sub.any (Qt.extract rfl rfl) ?_
         refine RW.q 15 rfl rfl (by kernel_rfl) Sub.any (Qt.extract rfl rfl) ?_
         refine RW.q 16 rfl rfl (by kernel_rfl) Sub.any (Qt.fieldAddr0 (by kernel_rfl) rfl) ?_
         refine RW.one 17 (by kernel_rfl) ?_
         refine RO.eS0 rfl rfl (Ef.store [_, _] (by kernel_rfl) rfl rfl rfl rfl (by simp) ?_)
         try simp only [splice, List.length_cons, List.length_nil, List.drop_succ_cons, List.cons_append, List.take_succ_cons, List.take_zero, List.drop_zero, List.nil_append, List.append_nil]
         refine ⟨Sub.any, ?_⟩
         refine RW.done (by rfl) ?_
         simp only [List.drop_succ_cons, List.drop_zero, List.drop_nil]
         refine LW.done ?_
         refine T.region ?_
         refine LW.q rfl (Qt.fieldAddr (off := 9) (by kernel_rfl) rfl) ?_
         first | refine LW.q rfl (Qt.load (by kernel_rfl) rfl rfl) ?_ | refine LW.q rfl (Qt.load (by kernel_rfl) rfl (map_at _ _ _ (by omega))) ?_ | refine LW.q rfl (Qt.load (by kernel_rfl) rfl (flat_cell0 _ _ _ (by intros; rfl) _ (by omega) (by rfl))) ?_ | refine LW.q rfl (Qt.load (by kernel_rfl) rfl (flat_cell _ _ _ (by intros; rfl) _ _ (by omega) (by rfl))) ?_ | refine LW.q rfl (Qt.load (by kernel_rfl) rfl (bytes_at _ _ (by omega))) ?_
         refine LW.q rfl (Qt.move rfl) ?_
         refine LW.q rfl (Qt.index _ (e := 90) (sz := 6) (by kernel_rfl) rfl rfl rfl (by omega)) ?_
         refine LW.q rfl (Qt.fieldAddr (off := 4) (by kernel_rfl) rfl) ?_
         refine LW.e0 rfl (Ef.store1 (by kernel_rfl) rfl rfl rfl (by omega) ?_)
         rw [ra_set (y := { x with dirty := false }) hxc 4 (by omega) _ rfl, ← hcl]
         refine LW.done ?_
         refine T.region ?_
         refine LW.q rfl (Qt.move rfl) ?_
         refine LW.q rfl (Qt.add rfl rfl (wr64 (by omega) (by omega))) ?_
         refine LW.q rfl (Qt.assign rfl) ?_
         refine LW.done ?_
         refine ⟨_, ?_, _, ⟨_, k + 1, p4, q4, a4, c4, m + 1, ⟨by omega, by rw [hps, writesP_snoc]; simp [DD.write, hm4]⟩, rfl, (updS rfl (updS rfl (updS rfl rfl))), rfl⟩, (by rw [hps, writesP_snoc]; simp only [DD.write]; exact Sub.any)⟩
         first | omega | (simp; omega)
        ·
         first | refine RO.eS rfl rfl (Ef.qt (Qt.load (by kernel_rfl) rfl rfl) ?_) | refine RO.eS rfl rfl (Ef.qt (Qt.load (by kernel_rfl) rfl (map_at _ _ _ (by omega))) ?_) | refine RO.eS rfl rfl (Ef.qt (Qt.load (by kernel_rfl) rfl (flat_cell0 _ _ _ (by intros; rfl) _ (by omega) (by rfl))) ?_) | refine RO.eS rfl rfl (Ef.qt (Qt.load (by kernel_rfl) rfl (flat_cell _ _ _ (by intros; rfl) _ _ (by omega) (by rfl))) ?_) | refine RO.eS rfl rfl (Ef.qt (Qt.load (by kernel_rfl) rfl (bytes_at _ _ (by omega))) ?_)
         refine ⟨Sub.any, ?_⟩
         refine RW.q 9 rfl rfl (by kernel_rfl) Sub.any (Qt.index _ (e := 90) (sz := 6) (by kernel_rfl) rfl rfl rfl (by omega)) ?_
         refine RW.q 10 rfl rfl (by kernel_rfl) Sub.any (Qt.fieldAddr (off := 1) (by kernel_rfl) rfl) ?_
         refine RW.q 11 rfl rfl (by kernel_rfl) Sub.any (Qt.load (v := strW x.b) (by kernel_rfl) rfl (ra_at hxc 1 (by omega))) ?_
         refine RW.one 1 (by kernel_rfl) ?_
         first | refine RO.eS rfl rfl (Ef.qt (Qt.loadAgg [_, _] (by kernel_rfl) rfl ⟨rfl, rfl, trivial⟩) ?_) | refine RO.eS rfl rfl (Ef.qt (Qt.loadAgg [_, _] (by kernel_rfl) rfl (by exact rdl_flat _ _ _ (by intros; rfl) _ (by omega))) ?_)
         refine ⟨Sub.any, ?_⟩
         refine RW.one 12 (by kernel_rfl) ?_
         refine RO.eS rfl rfl (Ef.call (Rf.put B p q a c N m (first + k) (first + k) (by omega) x.b (writesP D2 (pgL first A k)).secs (writesP D2 (pgL first A k)).pend (by omega) (by omega) (by omega) hxo.2.2.1) Tryz.func27 rfl rfl rfl ?_)
         rintro _ _ ⟨p4, a4, q4, c4, rfl, rfl⟩
         try simp only [List.cons_append, List.nil_append]
         refine ⟨Sub.any, ?_⟩
         refine RW.q 13 rfl rfl (by kernel_rfl) Sub.any (Qt.move rfl) ?_
         refine RW.q 14 rfl rfl (by kernel_rfl) Sub.any (Qt.extract rfl rfl) ?_
         refine RW.q 15 rfl rfl (by kernel_rfl) Sub.any (Qt.extract rfl rfl) ?_
         refine RW.q 16 rfl rfl (by kernel_rfl) Sub.any (Qt.fieldAddr0 (by kernel_rfl) rfl) ?_
         refine RW.one 17 (by kernel_rfl) ?_
         refine RO.eS0 rfl rfl (Ef.store [_, _] (by kernel_rfl) rfl rfl rfl rfl (by simp) ?_)
         try simp only [splice, List.length_cons, List.length_nil, List.drop_succ_cons, List.cons_append, List.take_succ_cons, List.take_zero, List.drop_zero, List.nil_append, List.append_nil]
         refine ⟨Sub.any, ?_⟩
         refine RW.done (by rfl) ?_
         simp only [List.drop_succ_cons, List.drop_zero, List.drop_nil]
         refine LW.done ?_
         refine T.region ?_
         refine LW.q rfl (Qt.fieldAddr (off := 9) (by kernel_rfl) rfl) ?_
         first | refine LW.q rfl (Qt.load (by kernel_rfl) rfl rfl) ?_ | refine LW.q rfl (Qt.load (by kernel_rfl) rfl (map_at _ _ _ (by omega))) ?_ | refine LW.q rfl (Qt.load (by kernel_rfl) rfl (flat_cell0 _ _ _ (by intros; rfl) _ (by omega) (by rfl))) ?_ | refine LW.q rfl (Qt.load (by kernel_rfl) rfl (flat_cell _ _ _ (by intros; rfl) _ _ (by omega) (by rfl))) ?_ | refine LW.q rfl (Qt.load (by kernel_rfl) rfl (bytes_at _ _ (by omega))) ?_
         refine LW.q rfl (Qt.move rfl) ?_
         refine LW.q rfl (Qt.index _ (e := 90) (sz := 6) (by kernel_rfl) rfl rfl rfl (by omega)) ?_
         refine LW.q rfl (Qt.fieldAddr (off := 4) (by kernel_rfl) rfl) ?_
         refine LW.e0 rfl (Ef.store1 (by kernel_rfl) rfl rfl rfl (by omega) ?_)
         rw [ra_set (y := { x with dirty := false }) hxc 4 (by omega) _ rfl, ← hcl]
         refine LW.done ?_
         refine T.region ?_
         refine LW.q rfl (Qt.move rfl) ?_
         refine LW.q rfl (Qt.add rfl rfl (wr64 (by omega) (by omega))) ?_
         refine LW.q rfl (Qt.assign rfl) ?_
         refine LW.done ?_
         refine ⟨_, ?_, _, ⟨_, k + 1, p4, q4, a4, c4, m + 1, ⟨by omega, by rw [hps, writesP_snoc]; simp [DD.write, hm4]⟩, rfl, (updS rfl (updS rfl (updS rfl rfl))), rfl⟩, (by rw [hps, writesP_snoc]; simp only [DD.write]; exact Sub.any)⟩
         first | omega | (simp; omega)
       ·
        first | refine RO.eS rfl rfl (Ef.qt (Qt.load (by kernel_rfl) rfl rfl) ?_) | refine RO.eS rfl rfl (Ef.qt (Qt.load (by kernel_rfl) rfl (map_at _ _ _ (by omega))) ?_) | refine RO.eS rfl rfl (Ef.qt (Qt.load (by kernel_rfl) rfl (flat_cell0 _ _ _ (by intros; rfl) _ (by omega) (by rfl))) ?_) | refine RO.eS rfl rfl (Ef.qt (Qt.load (by kernel_rfl) rfl (flat_cell _ _ _ (by intros; rfl) _ _ (by omega) (by rfl))) ?_) | refine RO.eS rfl rfl (Ef.qt (Qt.load (by kernel_rfl) rfl (bytes_at _ _ (by omega))) ?_)
        refine ⟨Sub.any, ?_⟩
        refine RW.q 9 rfl rfl (by kernel_rfl) Sub.any (Qt.index _ (e := 90) (sz := 6) (by kernel_rfl) rfl rfl rfl (by omega)) ?_
        refine RW.q 10 rfl rfl (by kernel_rfl) Sub.any (Qt.fieldAddr (off := 1) (by kernel_rfl) rfl) ?_
        refine RW.q 11 rfl rfl (by kernel_rfl) Sub.any (Qt.load (v := strW x.b) (by kernel_rfl) rfl (ra_at hxc 1 (by omega))) ?_
        refine RW.all [1, 3] (by kernel_rfl) (List.forall_mem_cons.2 ⟨?_, List.forall_mem_cons.2 ⟨?_, List.forall_mem_nil _⟩⟩)
        ·
         first | refine RO.eS rfl rfl (Ef.qt (Qt.loadAgg [_, _] (by kernel_rfl) rfl ⟨rfl, rfl, trivial⟩) ?_) | refine RO.eS rfl rfl (Ef.qt (Qt.loadAgg [_, _] (by kernel_rfl) rfl (by exact rdl_flat _ _ _ (by intros; rfl) _ (by omega))) ?_)
         refine ⟨Sub.any, ?_⟩
         refine RW.one 3 (by kernel_rfl) ?_
         first | refine RO.eS rfl rfl (Ef.qt (Qt.load (by kernel_rfl) rfl rfl) ?_) | refine RO.eS rfl rfl (Ef.qt (Qt.load (by kernel_rfl) rfl (map_at _ _ _ (by omega))) ?_) | refine RO.eS rfl rfl (Ef.qt (Qt.load (by kernel_rfl) rfl (flat_cell0 _ _ _ (by intros; rfl) _ (by omega) (by rfl))) ?_) | refine RO.eS rfl rfl (Ef.qt (Qt.load (by kernel_rfl) rfl (flat_cell _ _ _ (by intros; rfl) _ _ (by omega) (by rfl))) ?_) | refine RO.eS rfl rfl (Ef.qt (Qt.load (by kernel_rfl) rfl (bytes_at _ _ (by omega))) ?_)
         refine ⟨Sub.any, ?_⟩
         refine RW.q 5 rfl rfl (by kernel_rfl) Sub.any (Qt.add rfl rfl (wr64 (by omega) (by omega))) ?_
         refine RW.one 12 (by kernel_rfl) ?_
         refine RO.eS rfl rfl (Ef.call (Rf.put B p q a c N m (first + k) (first + k) (by omega) x.b (writesP D2 (pgL first A k)).secs (writesP D2 (pgL first A k)).pend (by omega) (by omega) (by omega) hxo.2.2.1) Tryz.func27 rfl rfl rfl ?_)
         rintro _ _ ⟨p4, a4, q4, c4, rfl, rfl⟩
         try simp only [List.cons_append, List.nil_append]
         refine ⟨Sub.any, ?_⟩
         refine RW.q 13 rfl rfl (by kernel_rfl) Sub.any (Qt.move rfl) ?_
         refine RW.q 14 rfl rfl (by kernel_rfl) Sub.any (Qt.extract rfl rfl) ?_
         refine RW.q 15 rfl rfl (by kernel_rfl) Sub.any (Qt.extract rfl rfl) ?_
         refine RW.q 16 rfl rfl (by kernel_rfl) Sub.any (Qt.fieldAddr0 (by kernel_rfl) rfl) ?_
         refine RW.one 17 (by kernel_rfl) ?_
         refine RO.eS0 rfl rfl (Ef.store [_, _] (by kernel_rfl) rfl rfl rfl rfl (by simp) ?_)
         try simp only [splice, List.length_cons, List.length_nil, List.drop_succ_cons, List.cons_append, List.take_succ_cons, List.take_zero, List.drop_zero, List.nil_append, List.append_nil]
         refine ⟨Sub.any, ?_⟩
         refine RW.done (by rfl) ?_
         simp only [List.drop_succ_cons, List.drop_zero, List.drop_nil]
         refine LW.done ?_
         refine T.region ?_
         refine LW.q rfl (Qt.fieldAddr (off := 9) (by kernel_rfl) rfl) ?_
         first | refine LW.q rfl (Qt.load (by kernel_rfl) rfl rfl) ?_ | refine LW.q rfl (Qt.load (by kernel_rfl) rfl (map_at _ _ _ (by omega))) ?_ | refine LW.q rfl (Qt.load (by kernel_rfl) rfl (flat_cell0 _ _ _ (by intros; rfl) _ (by omega) (by rfl))) ?_ | refine LW.q rfl (Qt.load (by kernel_rfl) rfl (flat_cell _ _ _ (by intros; rfl) _ _ (by omega) (by rfl))) ?_ | refine LW.q rfl (Qt.load (by kernel_rfl) rfl (bytes_at _ _ (by omega))) ?_
         refine LW.q rfl (Qt.move rfl) ?_
         refine LW.q rfl (Qt.index _ (e := 90) (sz := 6) (by kernel_rfl) rfl rfl rfl (by omega)) ?_
         refine LW.q rfl (Qt.fieldAddr (off := 4) (by kernel_rfl) rfl) ?_
         refine LW.e0 rfl (Ef.store1 (by kernel_rfl) rfl rfl rfl (by omega) ?_)
         rw [ra_set (y := { x with dirty := false }) hxc 4 (by omega) _ rfl, ← hcl]
         refine LW.done ?_
         refine T.region ?_
         refine LW.q rfl (Qt.move rfl) ?_
         refine LW.q rfl (Qt.add rfl rfl (wr64 (by omega) (by omega))) ?_
         refine LW.q rfl (Qt.assign rfl) ?_
         refine LW.done ?_
         refine ⟨_, ?_, _, ⟨_, k + 1, p4, q4, a4, c4, m + 1, ⟨by omega, by rw [hps, writesP_snoc]; simp [DD.write, hm4]⟩, rfl, (updS rfl (updS rfl (updS rfl rfl))), rfl⟩, (by rw [hps, writesP_snoc]; simp only [DD.write]; exact Sub.any)⟩
         first | omega | (simp; omega)
        ·
         first | refine RO.eS rfl rfl (Ef.qt (Qt.load (by kernel_rfl) rfl rfl) ?_) | refine RO.eS rfl rfl (Ef.qt (Qt.load (by kernel_rfl) rfl (map_at _ _ _ (by omega))) ?_) | refine RO.eS rfl rfl (Ef.qt (Qt.load (by kernel_rfl) rfl (flat_cell0 _ _ _ (by intros; rfl) _ (by omega) (by rfl))) ?_) | refine RO.eS rfl rfl (Ef.qt (Qt.load (by kernel_rfl) rfl (flat_cell _ _ _ (by intros; rfl) _ _ (by omega) (by rfl))) ?_) | refine RO.eS rfl rfl (Ef.qt (Qt.load (by kernel_rfl) rfl (bytes_at _ _ (by omega))) ?_)
         refine ⟨Sub.any, ?_⟩
         refine RW.q 5 rfl rfl (by kernel_rfl) Sub.any (Qt.add rfl rfl (wr64 (by omega) (by omega))) ?_
         refine RW.one 1 (by kernel_rfl) ?_
         first | refine RO.eS rfl rfl (Ef.qt (Qt.loadAgg [_, _] (by kernel_rfl) rfl ⟨rfl, rfl, trivial⟩) ?_) | refine RO.eS rfl rfl (Ef.qt (Qt.loadAgg [_, _] (by kernel_rfl) rfl (by exact rdl_flat _ _ _ (by intros; rfl) _ (by omega))) ?_)
         refine ⟨Sub.any, ?_⟩
         refine RW.one 12 (by kernel_rfl) ?_
         refine RO.eS rfl rfl (Ef.call (Rf.put B p q a c N m (first + k) (first + k) (by omega) x.b (writesP D2 (pgL first A k)).secs (writesP D2 (pgL first A k)).pend (by omega) (by omega) (by omega) hxo.2.2.1) Tryz.func27 rfl rfl rfl ?_)
         rintro _ _ ⟨p4, a4, q4, c4, rfl, rfl⟩
         try simp only [List.cons_append, List.nil_append]
         refine ⟨Sub.any, ?_⟩
         refine RW.q 13 rfl rfl (by kernel_rfl) Sub.any (Qt.move rfl) ?_
         refine RW.q 14 rfl rfl (by kernel_rfl) Sub.any (Qt.extract rfl rfl) ?_
         refine RW.q 15 rfl rfl (by kernel_rfl) Sub.any (Qt.extract rfl rfl) ?_
         refine RW.q 16 rfl rfl (by kernel_rfl) Sub.any (Qt.fieldAddr0 (by kernel_rfl) rfl) ?_
         refine RW.one 17 (by kernel_rfl) ?_
         refine RO.eS0 rfl rfl (Ef.store [_, _] (by kernel_rfl) rfl rfl rfl rfl (by simp) ?_)
         try simp only [splice, List.length_cons, List.length_nil, List.drop_succ_cons, List.cons_append, List.take_succ_cons, List.take_zero, List.drop_zero, List.nil_append, List.append_nil]
         refine ⟨Sub.any, ?_⟩
         refine RW.done (by rfl) ?_
         simp only [List.drop_succ_cons, List.drop_zero, List.drop_nil]
         refine LW.done ?_
         refine T.region ?_
         refine LW.q rfl (Qt.fieldAddr (off := 9) (by kernel_rfl) rfl) ?_
         first | refine LW.q rfl (Qt.load (by kernel_rfl) rfl rfl) ?_ | refine LW.q rfl (Qt.load (by kernel_rfl) rfl (map_at _ _ _ (by omega))) ?_ | refine LW.q rfl (Qt.load (by kernel_rfl) rfl (flat_cell0 _ _ _ (by intros; rfl) _ (by omega) (by rfl))) ?_ | refine LW.q rfl (Qt.load (by kernel_rfl) rfl (flat_cell _ _ _ (by intros; rfl) _ _ (by omega) (by rfl))) ?_ | refine LW.q rfl (Qt.load (by kernel_rfl) rfl (bytes_at _ _ (by omega))) ?_
         refine LW.q rfl (Qt.move rfl) ?_
         refine LW.q rfl (Qt.index _ (e := 90) (sz := 6) (by kernel_rfl) rfl rfl rfl (by omega)) ?_
         refine LW.q rfl (Qt.fieldAddr (off := 4) (by kernel_rfl) rfl) ?_
         refine LW.e0 rfl (Ef.store1 (by kernel_rfl) rfl rfl rfl (by omega) ?_)
         rw [ra_set (y := { x with dirty := false }) hxc 4 (by omega) _ rfl, ← hcl]
         refine LW.done ?_
         refine T.region ?_
         refine LW.q rfl (Qt.move rfl) ?_
         refine LW.q rfl (Qt.add rfl rfl (wr64 (by omega) (by omega))) ?_
         refine LW.q rfl (Qt.assign rfl) ?_
         refine LW.done ?_
         refine ⟨_, ?_, _, ⟨_, k + 1, p4, q4, a4, c4, m + 1, ⟨by omega, by rw [hps, writesP_snoc]; simp [DD.write, hm4]⟩, rfl, (updS rfl (updS rfl (updS rfl rfl))), rfl⟩, (by rw [hps, writesP_snoc]; simp only [DD.write]; exact Sub.any)⟩
         first | omega | (simp; omega)
      ·
       have hps := pgL_some (first := first) hi hx
       rw [if_neg (by rw [hd]; simp), List.append_nil] at hps
       have hsm : clnK A (k + 1) = clnK A k := by rw [hcl]; rw [show ({ x with dirty := false } : Fa) = x by cases x; simp_all]; exact set_same hxc
       refine T.skip ?_
       refine T.region ?_
       refine LW.q rfl (Qt.move rfl) ?_
       refine LW.q rfl (Qt.add rfl rfl (wr64 (by omega) (by omega))) ?_
       refine LW.q rfl (Qt.assign rfl) ?_
       refine LW.done ?_
       refine ⟨_, ?_, _, ⟨_, k + 1, p, q, a, c, m, ⟨by omega, by rw [hps]; exact hm4⟩, rfl, (updS rfl (updS rfl (updS rfl rfl))), rfl⟩, (by rw [hps, hsm]; exact Sub.any)⟩
       first | omega | (simp; omega)
    ·
     obtain rfl : count = k := by omega
     obtain ⟨w1, w2, w3⟩ := writes_ok f2 (fun q hq => hwr count q (Nat.le_refl _) hq)
     have hwl := pgL_len (first := first) (A := A) count
     have hwroom := f1.room
     have hsy : (writesP D2 (dirtyL first A)).sync = (writesP D2 (pgL first A count)).sync := (writes_sync f2 (fun q hq => hwr count q (Nat.le_refl _) hq) (pgL_nodup hF count) (dirty_nodup hF hdp) (fun q => by rw [pgL_mem hF count, dirty_mem]; constructor; exact (fun ⟨i, x, h1, h2, h3, h4, h5⟩ => ⟨i, x, h1, h2, h5⟩); exact (fun ⟨i, x, h1, h2, h5⟩ => ⟨i, x, h1, h2, hdp x (List.mem_of_getElem? h1) h2, (fr_ok hF h1 (hdp x (List.mem_of_getElem? h1) h2)).2.1, h5⟩))).symm
     rw [cln_all hF, hsy]
     refine T.exit ?_
     refine T.seq ?_
     refine T.region ?_
     refine LW.q rfl (Qt.fieldAddr0 (by kernel_rfl) rfl) ?_
     first | refine LW.q rfl (Qt.loadAgg [_, _] (by kernel_rfl) rfl ⟨rfl, rfl, trivial⟩) ?_ | refine LW.q rfl (Qt.loadAgg [_, _] (by kernel_rfl) rfl (by exact rdl_flat _ _ _ (by intros; rfl) _ (by omega))) ?_
     refine LW.e rfl (Ef.call (Rf.crash B p q a c N m true (.slice none 0 0) [] 0 0 (writesP D2 (pgL first A count)).secs (writesP D2 (pgL first A count)).pend w1 (by omega) (RoS.nil B)) Tryz.func28 rfl rfl rfl ?_)
     rintro _ _ ⟨p5, a5, rfl, rfl⟩
     try simp only [List.cons_append, List.nil_append]
     rw [show DD.lays ⟨(writesP D2 (pgL first A count)).secs, (writesP D2 (pgL first A count)).pend⟩ (fun i => some (rAmt true [] 0 0 i)) m = (writesP D2 (pgL first A count)).sync.secs by rw [← hm4]; exact sync_rAmt _]
     refine LW.q rfl (Qt.fieldAddr0 (by kernel_rfl) rfl) ?_
     refine LW.e0 rfl (Ef.store [_, _] (by kernel_rfl) rfl rfl rfl rfl (by simp) ?_)
     try simp only [splice, List.length_cons, List.length_nil, List.drop_succ_cons, List.cons_append, List.take_succ_cons, List.take_zero, List.drop_zero, List.nil_append, List.append_nil]
     refine LW.done ?_
     refine T.seq ?_
     refine T.region ?_
     first | refine LW.q rfl (Qt.loadAgg [_, _, _, _, _, _, _, _, _, _, _] (by kernel_rfl) rfl ⟨rfl, rfl, rfl, rfl, rfl, rfl, rfl, rfl, rfl, rfl, rfl, trivial⟩) ?_ | refine LW.q rfl (Qt.loadAgg [_, _, _, _, _, _, _, _, _, _, _] (by kernel_rfl) rfl (by exact rdl_flat _ _ _ (by intros; rfl) _ (by omega))) ?_
     refine LW.e0 rfl (Ef.store [_, _, _, _, _, _, _, _, _, _, _] (by kernel_rfl) rfl rfl rfl rfl (by simp) ?_)
     try simp only [splice, List.length_cons, List.length_nil, List.drop_succ_cons, List.cons_append, List.take_succ_cons, List.take_zero, List.drop_zero, List.nil_append, List.append_nil]
     refine LW.done ?_
     refine T.ret ?_
     exact ⟨.inl rfl, _, _, res [_] rfl ⟨rvA [_, _, _, _, _, _, _, _, _, _, _] (by kernel_rfl) rfl ⟨rfl, rfl, rfl, rfl, rfl, rfl, rfl, rfl, rfl, rfl, rfl, trivial⟩, trivial⟩, ⟨p5, a5, _, cf2, _, _, rfl, rfl, rfl, rfl⟩, Sub.any⟩
end Go.Proofs.YtegohgaccmkigaaGreatDoor

/- The pool and the document's side by side: what stays in order; same. Conditions: sizes. -/
set_option linter.unusedSimpArgs false
set_option linter.unusedVariables false
namespace Go.Proofs.YtegohgaccmkigaaGreatDoor
open Go.RowKit

theorem Bp.flush (B : Base) (g b n first count hand gl : Nat) (A : List Fa) (W : Wl) (D : DD) (hF : FOk count n A) (hdp : ∀ x ∈ A, x.dirty = true → 0 ≤ x.page) (hw : WOk W D) (ho : D.Ok) (hsec : first + count ≤ D.secs.length) :
    Fn Tryz.prog B 34 #[.pointer (some ⟨g, 0, none⟩)] [plA g b n first count hand gl A, wlA gl b W, dskA b D]
      (fun u l => u = .tuple #[] ∧ l = [plA g b n first count hand gl (cleanA A), wlA gl b (forceP W D (dirtyMark A)).1, dskA b (writesP (forceP W D (dirtyMark A)).2 (dirtyL first A)).sync]) := by
  refine Fn.openPl fun q hA hptr ⟨gp, hgp⟩ => ?_
  obtain ⟨Fs, gf, pl, cl⟩ := q
  dsimp only at hA hptr hgp ⊢
  subst hgp
  simp only [plC, List.cons_append, List.nil_append]
  refine Fn.wide (Bf.flush B g b gf n first count hand gp cl gl W D Fs A hA hF hdp hptr hw ho hsec) ?_
  rintro v l' ⟨Fs', W', D', e1, rfl, e2, e3, rfl⟩
  subst e2
  subst e3
  simp only [List.cons_append, List.nil_append]
  have hs : Sub [poolB g b gf n first count hand (some ⟨gp, 0, none⟩) 1 cl, fmR gf n Fs', lgR (some ⟨gp, 0, none⟩) 1 cl [ifW gl], daA Fs', wlA gl b (forceP W D (dirtyMark A)).1, dskA b (writesP (forceP W D (dirtyMark A)).2 (dirtyL first A)).sync] [plA g b n first count hand gl (cleanA A), wlA gl b (forceP W D (dirtyMark A)).1, dskA b (writesP (forceP W D (dirtyMark A)).2 (dirtyL first A)).sync] := sub_pl ⟨Fs', gf, some ⟨gp, 0, none⟩, cl⟩ e1
  exact ⟨_, fun k K => hs k (Sub.any k K), by simp, rfl⟩

/-- All is in order. -/
structure PInv (first count n K : Nat) (s : Pl) : Prop where
  F : FOk count n s.A
  dp : ∀ x ∈ s.A, x.dirty = true → 0 ≤ x.page
  pins : ∀ x ∈ s.A, x.pins ≤ K
  hand : s.hand < n
  fit : s.W.first + s.W.count ≤ s.D.secs.length
  wst : s.W.st.length ≤ s.W.count * 256
  wdur : s.W.dur ≤ s.W.st.length
  pend : s.D.pend.length ≤ K
  ok : s.D.Ok
  sec : first + count ≤ s.D.secs.length
theorem PInv.w {first count n K : Nat} {s : Pl} (h : PInv first count n K s) (hK : K < 2 ^ 31) : WOk s.W s.D := ⟨h.fit, h.ok.max, h.wst, h.wdur, by have := h.pend; omega⟩
theorem PInv.mono {first count n K K' : Nat} {s : Pl} (h : PInv first count n K s) (hK : K ≤ K') : PInv first count n K' s := ⟨h.F, h.dp, fun x hx => by have := h.pins x hx; omega, h.hand, h.fit, h.wst, h.wdur, by have := h.pend; omega, h.ok, h.sec⟩

theorem mem_set_of {α : Type} {l : List α} {i : Nat} {a x : α} (h : x ∈ l.set i a) : x = a ∨ x ∈ l := by
  rcases List.mem_or_eq_of_mem_set h with h | h
  · exact .inr h
  · exact .inl h
theorem FOk.set {count n : Nat} {A : List Fa} (h : FOk count n A) {i : Nat} {x y : Fa} (hx : A[i]? = some x) (hp : y.page = x.page) (hb : y = fa1 ∨ (0 ≤ y.page ∧ y.page < count ∧ y.b.length = 256 ∧ 0 ≤ y.pins)) (hm : -(2 ^ 63) ≤ y.mark ∧ y.mark < 2 ^ 63) : FOk count n (A.set i y) := by
  have hil := (List.getElem?_eq_some_iff.1 hx).1
  have key : ∀ (j : Nat) (z : Fa), (A.set i y)[j]? = some z → ∃ z', A[j]? = some z' ∧ z.page = z'.page := fun j z hz => by
    rw [List.getElem?_set] at hz
    split at hz
    · rename_i e; subst e; cases hz; exact ⟨x, hx, hp⟩
    · exact ⟨z, hz, rfl⟩
  refine ⟨by rw [List.length_set]; exact h.len, h.n1, h.n2, fun z hz => ?_, fun z hz => ?_, fun j k z u hz hu e h0 => ?_⟩
  · rcases mem_set_of hz with rfl | hz
    · exact hb
    · exact h.fr z hz
  · rcases mem_set_of hz with rfl | hz
    · exact hm
    · exact h.mrk z hz
  · obtain ⟨z', a1, a2⟩ := key j z hz
    obtain ⟨u', b1, b2⟩ := key k u hu
    exact h.one j k z' u' a1 b1 (by rw [← a2, ← b2]; exact e) (by rw [← a2]; exact h0)
/-- A frame takes a page that no frame has. -/
theorem FOk.put {count n : Nat} {A : List Fa} (h : FOk count n A) {i : Nat} {page : Int} {b : List UInt8} (h0 : 0 ≤ page) (hc : page < count) (hb : b.length = 256) (hno : ∀ (j : Nat) (y : Fa), A[j]? = some y → y.page ≠ page) : FOk count n (A.set i (newA page b)) := by
  have key : ∀ (j : Nat) (z : Fa), (A.set i (newA page b))[j]? = some z → (j = i ∧ z = newA page b) ∨ (j ≠ i ∧ A[j]? = some z) := fun j z hz => by
    rw [List.getElem?_set] at hz
    split at hz
    · rename_i e; subst e
      split at hz
      · cases hz; exact .inl ⟨rfl, rfl⟩
      · cases hz
    · rename_i e; exact .inr ⟨fun e2 => e e2.symm, hz⟩
  refine ⟨by rw [List.length_set]; exact h.len, h.n1, h.n2, fun z hz => ?_, fun z hz => ?_, fun j k z u hz hu e h1 => ?_⟩
  · rcases mem_set_of hz with rfl | hz
    · exact .inr ⟨h0, hc, hb, by show (0 : Int) ≤ 1; omega⟩
    · exact h.fr z hz
  · rcases mem_set_of hz with rfl | hz
    · exact ⟨by show -(2 ^ 63) ≤ (0 : Int); omega, by show (0 : Int) < _; omega⟩
    · exact h.mrk z hz
  · rcases key j z hz with ⟨rfl, rfl⟩ | ⟨a1, a2⟩ <;> rcases key k u hu with ⟨rfl, rfl⟩ | ⟨b1, b2⟩
    · rfl
    · exact absurd e.symm (hno k u b2)
    · exact absurd e (hno j z a2)
    · exact h.one j k z u a2 b2 e h1
theorem FOk.clock {count n f : Nat} {A A' : List Fa} {h i h' : Nat} (hF : FOk count n A) (hc : clockA f A h = some (i, A', h')) (hge : ∀ (j : Nat) (y : Fa), A[j]? = some y → 0 ≤ y.page) : FOk count n A' := by
  have hl := (clock_len hc).1
  refine ⟨by rw [hl]; exact hF.len, hF.n1, hF.n2, fun z hz => ?_, fun z hz => ?_, fun j k z u hz hu e h1 => ?_⟩
  · obtain ⟨j, hj, rfl⟩ := List.getElem_of_mem hz
    obtain ⟨x, hx, q1, q2, q3, q4, q5⟩ := clock_fr hc j _ (List.getElem?_eq_getElem hj)
    have := fr_ok hF hx (hge j x hx)
    exact .inr ⟨by rw [q1]; exact this.1, by rw [q1]; exact this.2.1, by rw [q5]; exact this.2.2.1, by rw [q3]; exact this.2.2.2⟩
  · obtain ⟨j, hj, rfl⟩ := List.getElem_of_mem hz
    obtain ⟨x, hx, q1, q2, q3, q4, q5⟩ := clock_fr hc j _ (List.getElem?_eq_getElem hj)
    rw [q2]
    exact hF.mrk x (List.mem_of_getElem? hx)
  · obtain ⟨x, hx, q1, _⟩ := clock_fr hc j z hz
    obtain ⟨y, hy, r1, _⟩ := clock_fr hc k u hu
    exact hF.one j k x y hx hy (by rw [← q1, ← r1]; exact e) (by rw [← q1]; exact h1)

theorem PInv.pin {first count n K : Nat} {s : Pl} (h : PInv first count n K s) (hK : K < 2 ^ 31) (page : Int) : PInv first count n (K + 1) (pinP first count s page).1 := by
  have hc := pin_cases (first := first) (count := count) (page := page) (s := s) (by rw [h.F.len]; exact h.hand)
  generalize pinP first count s page = res at hc ⊢
  cases hc with
  | range _ => exact h.mono (Nat.le_succ _)
  | full _ _ _ => exact h.mono (Nat.le_succ _)
  | found i x hr hf hx =>
    obtain ⟨h0, x2, hx2, hp, _⟩ := findA_some hf
    rw [hx] at hx2
    cases hx2
    have hxm := List.mem_of_getElem? hx
    have hxo := fr_ok h.F hx (by omega)
    refine ⟨h.F.set (y := upA x) hx rfl (.inr ⟨hxo.1, hxo.2.1, hxo.2.2.1, by show 0 ≤ x.pins + 1; omega⟩) (h.F.mrk x hxm), fun z hz hd => ?_, fun z hz => ?_, h.hand, h.fit, h.wst, h.wdur, by have := h.pend; dsimp only; omega, h.ok, h.sec⟩
    · rcases mem_set_of hz with rfl | hz
      · exact h.dp x hxm hd
      · exact h.dp z hz hd
    · rcases mem_set_of hz with rfl | hz
      · have := h.pins x hxm; show x.pins + 1 ≤ _; omega
      · have := h.pins z hz; omega
  | free i x hr hf hi hp hfirst =>
    have hrl := h.ok.rd (first + page.toNat) (by have := h.sec; omega)
    refine ⟨h.F.put (by omega) (by omega) hrl (findA_none hf (by omega)), fun z hz hd => ?_, fun z hz => ?_, h.hand, h.fit, h.wst, h.wdur, by have := h.pend; dsimp only; omega, h.ok, h.sec⟩
    · rcases mem_set_of hz with rfl | hz
      · cases hd
      · exact h.dp z hz hd
    · rcases mem_set_of hz with rfl | hz
      · show (1 : Int) ≤ _; omega
      · have := h.pins z hz; omega
  | clock i h' A' x' hr hf hx ha hc hx' hup =>
    obtain ⟨y, hy, q1, q2, q3, q4, q5⟩ := clock_fr hc i x' hx'
    have hyo := fr_ok h.F hy (hx i y hy)
    have hsec := h.sec
    have hpe := h.pend
    obtain ⟨f1, f2, f3, f4, f5, f6, f7⟩ := (h.w hK).give (first := first) h.ok (by omega) x' (by rw [q1]; omega) (by rw [q5]; exact hyo.2.2.1)
    have hrl := f2.rd (first + page.toNat) (by rw [f3]; omega)
    have hF' := h.F.clock hc hx
    have hno : ∀ (j : Nat) (z : Fa), A'[j]? = some z → z.page ≠ page := fun j z hz => by
      obtain ⟨w, hw, r1, _⟩ := clock_fr hc j z hz
      rw [r1]; exact findA_none hf (by omega) j w hw
    refine ⟨hF'.put (by omega) (by omega) hrl hno, fun z hz hd => ?_, fun z hz => ?_, ?_, f1.fit, f1.st, f1.dur, by dsimp only; omega, f2, by rw [f3]; exact hsec⟩
    · rcases mem_set_of hz with rfl | hz
      · cases hd
      · obtain ⟨j, hj, rfl⟩ := List.getElem_of_mem hz
        obtain ⟨w, hw, r1, r2, r3, r4, r5⟩ := clock_fr hc j _ (List.getElem?_eq_getElem hj)
        rw [r1]; exact hx j w hw
    · rcases mem_set_of hz with rfl | hz
      · show (1 : Int) ≤ _; omega
      · obtain ⟨j, hj, rfl⟩ := List.getElem_of_mem hz
        obtain ⟨w, hw, r1, r2, r3, r4, r5⟩ := clock_fr hc j _ (List.getElem?_eq_getElem hj)
        have := h.pins w (List.mem_of_getElem? hw)
        rw [r3]; omega
    · have := (clock_at hc (by rw [h.F.len]; exact h.hand)).1
      rwa [h.F.len] at this
theorem PInv.setA {first count n K : Nat} {s : Pl} (h : PInv first count n K s) {A : List Fa} (hF : FOk count n A) (hd : ∀ x ∈ A, x.dirty = true → 0 ≤ x.page) (hp : ∀ x ∈ A, x.pins ≤ K) : PInv first count n K { s with A := A } := ⟨hF, hd, hp, h.hand, h.fit, h.wst, h.wdur, h.pend, h.ok, h.sec⟩
theorem PInv.unpin {first count n K : Nat} {s : Pl} (h : PInv first count n K s) (page : Int) : PInv first count n K { s with A := (unpinA s.A page).1 } := by
  unfold unpinA
  cases hp : pinnedA s.A page with
  | none => exact h
  | some r =>
    obtain ⟨i, x⟩ := r
    obtain ⟨hf, hx, hpos⟩ := pinnedA_some hp
    obtain ⟨h0, x2, hx2, hpg, _⟩ := findA_some hf
    rw [hx] at hx2
    cases hx2
    have hxm := List.mem_of_getElem? hx
    have hxo := fr_ok h.F hx (by omega)
    have hxk := h.pins x hxm
    refine h.setA (h.F.set (y := { x with pins := x.pins - 1 }) hx rfl (.inr ⟨hxo.1, hxo.2.1, hxo.2.2.1, by show 0 ≤ x.pins - 1; omega⟩) (h.F.mrk x hxm)) (fun z hz hd => ?_) (fun z hz => ?_)
    · rcases mem_set_of hz with rfl | hz
      · exact h.dp x hxm hd
      · exact h.dp z hz hd
    · rcases mem_set_of hz with rfl | hz
      · show x.pins - 1 ≤ _; omega
      · exact h.pins z hz
theorem PInv.put {first count n K : Nat} {s : Pl} (h : PInv first count n K s) (page : Int) (d : List UInt8) (mark : Int) (hm : -(2 ^ 63) ≤ mark ∧ mark < 2 ^ 63) : PInv first count n K { s with A := (putA s.A page d mark).1 } := by
  unfold putA
  cases hp : pinnedA s.A page with
  | none => exact h
  | some r =>
    obtain ⟨i, x⟩ := r
    dsimp only
    by_cases hd : d.length ≠ 256
    · rw [if_pos hd]; exact h
    · rw [if_neg hd]
      obtain ⟨hf, hx, hpos⟩ := pinnedA_some hp
      obtain ⟨h0, x2, hx2, hpg, _⟩ := findA_some hf
      rw [hx] at hx2
      cases hx2
      have hxm := List.mem_of_getElem? hx
      have hxo := fr_ok h.F hx (by omega)
      have hxk := h.F.mrk x hxm
      refine h.setA (h.F.set (y := { x with mark := max x.mark mark, dirty := true, b := d }) hx rfl (.inr ⟨hxo.1, hxo.2.1, by show d.length = 256; omega, hxo.2.2.2⟩) (by show _ ≤ max x.mark mark ∧ max x.mark mark < _; omega)) (fun z hz hd => ?_) (fun z hz => ?_)
      · rcases mem_set_of hz with rfl | hz
        · exact hxo.1
        · exact h.dp z hz hd
      · rcases mem_set_of hz with rfl | hz
        · exact h.pins x hxm
        · exact h.pins z hz
theorem PInv.flush {first count n K : Nat} {s : Pl} (h : PInv first count n K s) (hK : K < 2 ^ 31) : PInv first count n K (flushP first s) := by
  have hsec := h.sec
  obtain ⟨f1, f2, f3, f4, f5, f6, f7⟩ := (h.w hK).force h.ok (dirtyMark s.A) (h.w hK).room
  have hL : ∀ p ∈ dirtyL first s.A, p.1 < (forceP s.W s.D (dirtyMark s.A)).2.secs.length ∧ p.2.length = 256 := fun p hp => by
    obtain ⟨i, x, hx, hd, rfl⟩ := dirty_mem.1 hp
    have := fr_ok h.F hx (h.dp x (List.mem_of_getElem? hx) hd)
    exact ⟨by rw [f3]; dsimp only; omega, this.2.2.1⟩
  obtain ⟨w1, w2, w3⟩ := writes_ok f2 hL
  have hcm : ∀ x ∈ cleanA s.A, ∃ y ∈ s.A, x = { y with dirty := false } := fun x hx => by
    obtain ⟨y, hy, rfl⟩ := List.mem_map.1 hx
    exact ⟨y, hy, rfl⟩
  have hca : ∀ (j : Nat) (x : Fa), (cleanA s.A)[j]? = some x → ∃ y, s.A[j]? = some y ∧ x.page = y.page := fun j x hx => by
    unfold cleanA at hx
    rw [List.getElem?_map] at hx
    cases hy : s.A[j]? with
    | none => rw [hy] at hx; cases hx
    | some y => rw [hy] at hx; cases hx; exact ⟨y, rfl, rfl⟩
  refine ⟨⟨by simp only [flushP, cleanA, List.length_map]; exact h.F.len, h.F.n1, h.F.n2, fun x hx => ?_, fun x hx => ?_, fun i j x y hx hy e h0 => ?_⟩, fun x hx hd => ?_, fun x hx => ?_, h.hand, ?_, ?_, ?_, ?_, w1.sy, ?_⟩
  · obtain ⟨y, hy, rfl⟩ := hcm x hx
    rcases h.F.fr y hy with rfl | h
    · exact .inl rfl
    · exact .inr h
  · obtain ⟨y, hy, rfl⟩ := hcm x hx
    exact h.F.mrk y hy
  · obtain ⟨x', a1, a2⟩ := hca i x hx
    obtain ⟨y', b1, b2⟩ := hca j y hy
    exact h.F.one i j x' y' a1 b1 (by rw [← a2, ← b2]; exact e) (by rw [← a2]; exact h0)
  · obtain ⟨y, hy, rfl⟩ := hcm x hx
    cases hd
  · obtain ⟨y, hy, rfl⟩ := hcm x hx
    exact h.pins y hy
  · show (forceP s.W s.D (dirtyMark s.A)).1.first + (forceP s.W s.D (dirtyMark s.A)).1.count ≤ (writesP _ _).sync.secs.length
    rw [DD.sync_len w1, w2]; exact f1.fit
  · exact f1.st
  · exact f1.dur
  · exact Nat.zero_le _
  · show first + count ≤ (writesP _ _).sync.secs.length
    rw [DD.sync_len w1, w2, f3]; exact hsec
theorem addW_fit {W : Wl} {d : List UInt8} (hst : W.st.length ≤ W.count * 256) (hd : W.dur ≤ W.st.length) : (addW W d).1.first = W.first ∧ (addW W d).1.count = W.count ∧ (addW W d).1.st.length ≤ W.count * 256 ∧ (addW W d).1.dur ≤ (addW W d).1.st.length := by
  unfold addW
  split
  · exact ⟨rfl, rfl, hst, hd⟩
  · split
    · exact ⟨rfl, rfl, hst, hd⟩
    · split
      · exact ⟨rfl, rfl, hst, hd⟩
      · refine ⟨rfl, rfl, ?_, ?_⟩ <;> simp [length_be] <;> omega
theorem PInv.append {first count n K : Nat} {s : Pl} (h : PInv first count n K s) (d : List UInt8) : PInv first count n K { s with W := (addW s.W d).1 } := by
  obtain ⟨a1, a2, a3, a4⟩ := addW_fit (d := d) h.wst h.wdur
  exact ⟨h.F, h.dp, h.pins, h.hand, by rw [a1, a2]; exact h.fit, by rw [a2]; exact a3, a4, h.pend, h.ok, h.sec⟩

set_option maxHeartbeats 4000000 in
set_option maxRecDepth 100000 in
theorem Rp.same (B : Base) (gb g b gl n K : Nat) (s : Pl) (h : PInv 4 8 n K s) (hK : K < 2 ^ 31) (p q : Option Addr) (a c N m : Nat) (pf : Option Addr) (cf : Nat) (hN : s.D.secs.length = N) (hm : s.D.pend.length = m) :
  Fn Tryz.prog B 11 #[.pointer (some ⟨gb, 0, none⟩), rqV p q a c N m s.W 4 8 pf n cf s.hand] [benchB gb b gl g, plA g b n 4 8 s.hand gl s.A, wlA gl b s.W, dskA b s.D, rS (.slice p N a) N s.D.secs, rW (.slice q m c) m s.D.pend, raR pf n cf s.A]
   (fun v l => v = .bool true ∧ l = [benchB gb b gl g, plA g b n 4 8 s.hand gl s.A, wlA gl b s.W, dskA b s.D, rS (.slice p N a) N s.D.secs, rW (.slice q m c) m s.D.pend, raR pf n cf s.A]) := by
 have hn := h.F.len
 have hn2 := h.F.n2
 have hn1 := h.F.n1
 have hmax := h.ok.max
 have hpe := h.pend
 have hwd := h.wdur
 have hwst := h.wst
 have hfit := h.fit
 refine Fn.enter2 95 Tryz.func11 rfl rfl (Nat.le_of_ble_eq_true rfl) (fun F => ?_)
 try simp only [List.cons_append, List.nil_append]
 refine T.own (fun w ho => ?_)
 obtain ⟨gf, rfl⟩ : ∃ g, pf = some ⟨g, 0, none⟩ := (ho.slice_at (p := pf) (m := n) (c := cf)).2.1 (by omega)
 clear ho
 refine T.seq ?_
 refine T.region ?_
 refine LW.e rfl (Ef.box [_, _, _, _, _, _, _, _, _, _, _] rfl rfl ?_)
 intro g3
 refine LW.q rfl (Qt.assign rfl) ?_
 refine LW.done ?_
 refine T.seq ?_
 refine T.region ?_
 refine LW.q rfl (Qt.move rfl) ?_
 refine LW.q rfl (Qt.nilCheck rfl) ?_
 refine LW.q rfl (Qt.fieldAddr (off := 2) (by kernel_rfl) rfl) ?_
 first | refine LW.q rfl (Qt.load (by kernel_rfl) rfl rfl) ?_ | refine LW.q rfl (Qt.load (by kernel_rfl) rfl (map_at _ _ _ (by omega))) ?_ | refine LW.q rfl (Qt.load (by kernel_rfl) rfl (flat_cell0 _ _ _ (by intros; rfl) _ (by omega) (by rfl))) ?_ | refine LW.q rfl (Qt.load (by kernel_rfl) rfl (flat_cell _ _ _ (by intros; rfl) _ _ (by omega) (by rfl))) ?_ | refine LW.q rfl (Qt.load (by kernel_rfl) rfl (bytes_at _ _ (by omega))) ?_
 refine LW.e rfl (Ef.call (Bp.frames B g b n 4 8 s.hand gl s.A hn hn2) Tryz.func17 rfl rfl rfl ?_)
 rintro _ _ ⟨p5, c5, rfl, rfl⟩
 try simp only [List.cons_append, List.nil_append]
 refine LW.own (fun w ho => ?_)
 obtain ⟨g5, rfl⟩ : ∃ g, p5 = some ⟨g, 0, none⟩ := (ho.slice_at (p := p5) (m := n) (c := c5)).2.1 (by omega)
 clear ho
 refine LW.q rfl (Qt.assign rfl) ?_
 refine LW.done ?_
 refine T.seq ?_
 refine T.seq ?_
 refine T.drawBl 29 none (by kernel_rfl) (Nat.le_of_ble_eq_true rfl) (by kernel_rfl) ?_
 refine RW.q 0 rfl rfl (by kernel_rfl) Sub.any (Qt.move rfl) ?_
 refine RW.q 1 rfl rfl (by kernel_rfl) Sub.any (Qt.len (e := 3) (sz := 1) (by kernel_rfl) rfl) ?_
 refine RW.q 2 rfl rfl (by kernel_rfl) Sub.any (Qt.fieldAddr (off := 9) (by kernel_rfl) rfl) ?_
 first | refine RW.q 3 rfl rfl (by kernel_rfl) Sub.any (Qt.load (by kernel_rfl) rfl rfl) ?_ | refine RW.q 3 rfl rfl (by kernel_rfl) Sub.any (Qt.load (by kernel_rfl) rfl (map_at _ _ _ (by omega))) ?_ | refine RW.q 3 rfl rfl (by kernel_rfl) Sub.any (Qt.load (by kernel_rfl) rfl (flat_cell0 _ _ _ (by intros; rfl) _ (by omega) (by rfl))) ?_ | refine RW.q 3 rfl rfl (by kernel_rfl) Sub.any (Qt.load (by kernel_rfl) rfl (flat_cell _ _ _ (by intros; rfl) _ _ (by omega) (by rfl))) ?_ | refine RW.q 3 rfl rfl (by kernel_rfl) Sub.any (Qt.load (by kernel_rfl) rfl (bytes_at _ _ (by omega))) ?_
 refine RW.q 4 rfl rfl (by kernel_rfl) Sub.any (Qt.len (e := 90) (sz := 6) (by kernel_rfl) rfl) ?_
 refine RW.q 5 rfl rfl (by kernel_rfl) Sub.any (Qt.neq rfl rfl) ?_
 refine RW.q 6 rfl rfl (by kernel_rfl) Sub.any (Qt.move rfl) ?_
 first | refine RW.gF (t := 23) rfl rfl ?_ | refine RW.gF (t := 23) rfl (decide_eq_false (by omega)) ?_ | refine RW.gF (t := 23) rfl (by omega) ?_
 refine RW.q 7 rfl rfl (by kernel_rfl) Sub.any (Qt.move rfl) ?_
 refine RW.q 8 rfl rfl (by kernel_rfl) Sub.any (Qt.nilCheck rfl) ?_
 refine RW.q 9 rfl rfl (by kernel_rfl) Sub.any (Qt.fieldAddr0 (by kernel_rfl) rfl) ?_
 first | refine RW.q 10 rfl rfl (by kernel_rfl) Sub.any (Qt.load (by kernel_rfl) rfl rfl) ?_ | refine RW.q 10 rfl rfl (by kernel_rfl) Sub.any (Qt.load (by kernel_rfl) rfl (map_at _ _ _ (by omega))) ?_ | refine RW.q 10 rfl rfl (by kernel_rfl) Sub.any (Qt.load (by kernel_rfl) rfl (flat_cell0 _ _ _ (by intros; rfl) _ (by omega) (by rfl))) ?_ | refine RW.q 10 rfl rfl (by kernel_rfl) Sub.any (Qt.load (by kernel_rfl) rfl (flat_cell _ _ _ (by intros; rfl) _ _ (by omega) (by rfl))) ?_ | refine RW.q 10 rfl rfl (by kernel_rfl) Sub.any (Qt.load (by kernel_rfl) rfl (bytes_at _ _ (by omega))) ?_
 refine RW.q 12 rfl rfl (by kernel_rfl) Sub.any (Qt.fieldAddr0 (by kernel_rfl) rfl) ?_
 refine RW.q 13 rfl rfl (by kernel_rfl) Sub.any (Qt.fieldAddr (off := 1) (by kernel_rfl) rfl) ?_
 first | refine RW.q 14 rfl rfl (by kernel_rfl) Sub.any (Qt.load (by kernel_rfl) rfl rfl) ?_ | refine RW.q 14 rfl rfl (by kernel_rfl) Sub.any (Qt.load (by kernel_rfl) rfl (map_at _ _ _ (by omega))) ?_ | refine RW.q 14 rfl rfl (by kernel_rfl) Sub.any (Qt.load (by kernel_rfl) rfl (flat_cell0 _ _ _ (by intros; rfl) _ (by omega) (by rfl))) ?_ | refine RW.q 14 rfl rfl (by kernel_rfl) Sub.any (Qt.load (by kernel_rfl) rfl (flat_cell _ _ _ (by intros; rfl) _ _ (by omega) (by rfl))) ?_ | refine RW.q 14 rfl rfl (by kernel_rfl) Sub.any (Qt.load (by kernel_rfl) rfl (bytes_at _ _ (by omega))) ?_
 refine RW.q 15 rfl rfl (by kernel_rfl) Sub.any (Qt.len (e := 130) (sz := 2) (by kernel_rfl) rfl) ?_
 refine RW.one 11 (by kernel_rfl) ?_
 refine RO.eS rfl rfl (Ef.call (Dk.pendingF B b s.D) Tryz.func37 rfl rfl rfl ?_)
 rintro _ _ ⟨rfl, rfl⟩
 try simp only [List.cons_append, List.nil_append]
 refine ⟨Sub.any, ?_⟩
 refine RW.q 16 rfl rfl (by kernel_rfl) Sub.any (Qt.neq rfl rfl) ?_
 refine RW.q 17 rfl rfl (by kernel_rfl) Sub.any (Qt.pick rfl rfl) ?_
 refine RW.q 18 rfl rfl (by kernel_rfl) Sub.any (Qt.move rfl) ?_
 first | refine RW.gF (t := 35) rfl rfl ?_ | refine RW.gF (t := 35) rfl (decide_eq_false (by omega)) ?_ | refine RW.gF (t := 35) rfl (by omega) ?_
 refine RW.q 19 rfl rfl (by kernel_rfl) Sub.any (Qt.move rfl) ?_
 refine RW.q 20 rfl rfl (by kernel_rfl) Sub.any (Qt.nilCheck rfl) ?_
 refine RW.q 21 rfl rfl (by kernel_rfl) Sub.any (Qt.fieldAddr (off := 1) (by kernel_rfl) rfl) ?_
 first | refine RW.q 22 rfl rfl (by kernel_rfl) Sub.any (Qt.load (by kernel_rfl) rfl rfl) ?_ | refine RW.q 22 rfl rfl (by kernel_rfl) Sub.any (Qt.load (by kernel_rfl) rfl (map_at _ _ _ (by omega))) ?_ | refine RW.q 22 rfl rfl (by kernel_rfl) Sub.any (Qt.load (by kernel_rfl) rfl (flat_cell0 _ _ _ (by intros; rfl) _ (by omega) (by rfl))) ?_ | refine RW.q 22 rfl rfl (by kernel_rfl) Sub.any (Qt.load (by kernel_rfl) rfl (flat_cell _ _ _ (by intros; rfl) _ _ (by omega) (by rfl))) ?_ | refine RW.q 22 rfl rfl (by kernel_rfl) Sub.any (Qt.load (by kernel_rfl) rfl (bytes_at _ _ (by omega))) ?_
 refine RW.q 24 rfl rfl (by kernel_rfl) Sub.any (Qt.fieldAddr (off := 2) (by kernel_rfl) rfl) ?_
 refine RW.q 25 rfl rfl (by kernel_rfl) Sub.any (Qt.fieldAddr (off := 2) (by kernel_rfl) rfl) ?_
 first | refine RW.q 26 rfl rfl (by kernel_rfl) Sub.any (Qt.load (by kernel_rfl) rfl rfl) ?_ | refine RW.q 26 rfl rfl (by kernel_rfl) Sub.any (Qt.load (by kernel_rfl) rfl (map_at _ _ _ (by omega))) ?_ | refine RW.q 26 rfl rfl (by kernel_rfl) Sub.any (Qt.load (by kernel_rfl) rfl (flat_cell0 _ _ _ (by intros; rfl) _ (by omega) (by rfl))) ?_ | refine RW.q 26 rfl rfl (by kernel_rfl) Sub.any (Qt.load (by kernel_rfl) rfl (flat_cell _ _ _ (by intros; rfl) _ _ (by omega) (by rfl))) ?_ | refine RW.q 26 rfl rfl (by kernel_rfl) Sub.any (Qt.load (by kernel_rfl) rfl (bytes_at _ _ (by omega))) ?_
 refine RW.one 23 (by kernel_rfl) ?_
 refine RO.eS rfl rfl (Ef.call (Wl.durable B gl b s.W (by omega)) Tryz.func38 rfl rfl rfl ?_)
 rintro _ _ ⟨rfl, rfl⟩
 try simp only [List.cons_append, List.nil_append]
 refine ⟨Sub.any, ?_⟩
 refine RW.q 27 rfl rfl (by kernel_rfl) Sub.any (Qt.neq rfl rfl) ?_
 refine RW.q 28 rfl rfl (by kernel_rfl) Sub.any (Qt.pick rfl rfl) ?_
 refine RW.done (by rfl) ?_
 simp only [List.drop_succ_cons, List.drop_zero, List.drop_nil]
 refine LW.done ?_
 first | refine T.condF rfl ?_ | refine T.condPF rfl (by omega) ?_ | refine T.condBF rfl (by omega) ?_
 refine T.skip ?_
 refine T.seq ?_
 refine T.seq ?_
 refine T.region ?_
 refine LW.q rfl (Qt.move rfl) ?_
 refine LW.q rfl (Qt.len (e := 3) (sz := 1) (by kernel_rfl) rfl) ?_
 refine LW.q rfl (Qt.move rfl) ?_
 refine LW.done ?_
 refine T.block ?_
 refine T.loop (fun mz fz lz => ∃ (f0 : Fr) (k : Nat), (k ≤ n) ∧ mz = n - k ∧ fz = (upd (upd (upd (upd (upd f0 0 (.pointer (some ⟨gb, 0, none⟩))) 3 (.pointer (some ⟨g3, 0, none⟩))) 5 (.slice (some ⟨g5, 0, none⟩) n c5)) 47 (.int .i64 n)) 48 (.int .i64 k)) ∧ lz = row (.slice (some ⟨g5, 0, none⟩) n c5) 3 1 n (s.A.map fun x => Value.int .i64 x.page) :: benchB gb b gl g :: plA g b n 4 8 s.hand gl s.A :: wlA gl b s.W :: dskA b s.D :: rS (.slice p N a) N s.D.secs :: rW (.slice q m c) m s.D.pend :: raR (some ⟨gf, 0, none⟩) n cf s.A :: blk g3 (rqC p q a c N m s.W 4 8 (some ⟨gf, 0, none⟩) n cf s.hand) 41 :: F) ?_ ?_
 · refine ⟨_, _, ⟨_, 0, Nat.zero_le _, rfl, (updS rfl (updS rfl (updS rfl (updS rfl (updS rfl rfl))))), rfl⟩, Sub.any⟩
 ·
  rintro mz fz lz ⟨f0, k, hk, hmz, rfl, rfl⟩
  subst mz
  try simp only [List.cons_append, List.nil_append]
  refine T.seq ?_
  refine T.region ?_
  refine LW.q rfl (Qt.lss rfl rfl) ?_
  refine LW.done ?_
  refine T.seq ?_
  refine T.condP rfl (fun hlt => ?_) (fun hlt => ?_)
  ·
   obtain ⟨y, hy⟩ : ∃ y, s.A[k]? = some y := ⟨_, List.getElem?_eq_getElem (by omega)⟩
   refine T.skip ?_
   refine T.seq ?_
   refine T.block ?_
   refine T.seq ?_
   refine T.region ?_
   refine LW.q rfl (Qt.move rfl) ?_
   refine LW.q rfl (Qt.assign rfl) ?_
   refine LW.done ?_
   refine T.seq ?_
   refine T.drawAll 11 (by kernel_rfl) (Nat.le_of_ble_eq_true rfl) (by kernel_rfl) ?_
   refine RW.q 0 rfl rfl (by kernel_rfl) (Sub.refl _) (Qt.move rfl) ?_
   refine RW.q 1 rfl rfl (by kernel_rfl) (Sub.refl _) (Qt.move rfl) ?_
   refine RW.q 2 rfl rfl (by kernel_rfl) (Sub.refl _) (Qt.index _ (e := 3) (sz := 1) (by kernel_rfl) rfl rfl rfl (by omega)) ?_
   refine RW.q 3 rfl rfl (by kernel_rfl) (Sub.refl _) (Qt.load (v := .int .i64 y.page) (by kernel_rfl) rfl (by rw [List.getElem?_map, show 0 + k * 1 = k by omega, hy]; rfl)) ?_
   refine RW.q 4 rfl rfl (by kernel_rfl) (Sub.refl _) (Qt.fieldAddr (off := 9) (by kernel_rfl) rfl) ?_
   first | refine RW.q 5 rfl rfl (by kernel_rfl) (Sub.refl _) (Qt.load (by kernel_rfl) rfl rfl) ?_ | refine RW.q 5 rfl rfl (by kernel_rfl) (Sub.refl _) (Qt.load (by kernel_rfl) rfl (map_at _ _ _ (by omega))) ?_ | refine RW.q 5 rfl rfl (by kernel_rfl) (Sub.refl _) (Qt.load (by kernel_rfl) rfl (flat_cell0 _ _ _ (by intros; rfl) _ (by omega) (by rfl))) ?_ | refine RW.q 5 rfl rfl (by kernel_rfl) (Sub.refl _) (Qt.load (by kernel_rfl) rfl (flat_cell _ _ _ (by intros; rfl) _ _ (by omega) (by rfl))) ?_ | refine RW.q 5 rfl rfl (by kernel_rfl) (Sub.refl _) (Qt.load (by kernel_rfl) rfl (bytes_at _ _ (by omega))) ?_
   refine RW.q 6 rfl rfl (by kernel_rfl) (Sub.refl _) (Qt.move rfl) ?_
   refine RW.q 7 rfl rfl (by kernel_rfl) (Sub.refl _) (Qt.index _ (e := 90) (sz := 6) (by kernel_rfl) rfl rfl rfl (by omega)) ?_
   refine RW.q 8 rfl rfl (by kernel_rfl) (Sub.refl _) (Qt.fieldAddr0 (by kernel_rfl) rfl) ?_
   refine RW.q 9 rfl rfl (by kernel_rfl) (Sub.refl _) (Qt.load (v := .int .i64 y.page) (by kernel_rfl) rfl (ra_at hy 0 (by omega))) ?_
   refine RW.q 10 rfl rfl (by kernel_rfl) (Sub.refl _) (Qt.neq rfl rfl) ?_
   refine RW.done (by rfl) ?_
   simp only [List.drop_succ_cons, List.drop_zero, List.drop_nil]
   refine LW.done ?_
   first | refine T.condF rfl ?_ | refine T.condPF rfl (by omega) ?_ | refine T.condBF rfl (by omega) ?_
   refine T.skip ?_
   refine T.region ?_
   refine LW.q rfl (Qt.add rfl rfl (wr64 (by omega) (by omega))) ?_
   refine LW.q rfl (Qt.move rfl) ?_
   refine LW.done ?_
   refine ⟨_, ?_, _, ⟨_, k + 1, by omega, rfl, (updS rfl (updS rfl (updS rfl (updS rfl (updS rfl rfl))))), rfl⟩, Sub.any⟩
   first | omega | (simp; omega)
  ·
   clear hlt hk
   refine T.exit ?_
   refine T.seq ?_
   refine T.seq ?_
   refine T.region ?_
   refine LW.q rfl (Qt.fieldAddr0 (by kernel_rfl) rfl) ?_
   refine LW.q rfl (Qt.fieldAddr0 (by kernel_rfl) rfl) ?_
   first | refine LW.q rfl (Qt.load (by kernel_rfl) rfl rfl) ?_ | refine LW.q rfl (Qt.load (by kernel_rfl) rfl (map_at _ _ _ (by omega))) ?_ | refine LW.q rfl (Qt.load (by kernel_rfl) rfl (flat_cell0 _ _ _ (by intros; rfl) _ (by omega) (by rfl))) ?_ | refine LW.q rfl (Qt.load (by kernel_rfl) rfl (flat_cell _ _ _ (by intros; rfl) _ _ (by omega) (by rfl))) ?_ | refine LW.q rfl (Qt.load (by kernel_rfl) rfl (bytes_at _ _ (by omega))) ?_
   refine LW.q rfl (Qt.len (e := 9) (sz := 1) (by kernel_rfl) rfl) ?_
   refine LW.q rfl (Qt.move rfl) ?_
   refine LW.done ?_
   refine T.block ?_
   refine T.loop (fun mz fz lz => ∃ (f0 : Fr) (k : Nat), (k ≤ N) ∧ mz = N - k ∧ fz = (upd (upd (upd (upd f0 0 (.pointer (some ⟨gb, 0, none⟩))) 3 (.pointer (some ⟨g3, 0, none⟩))) 66 (.int .i64 N)) 67 (.int .i64 k)) ∧ lz = benchB gb b gl g :: plA g b n 4 8 s.hand gl s.A :: wlA gl b s.W :: dskA b s.D :: rS (.slice p N a) N s.D.secs :: rW (.slice q m c) m s.D.pend :: raR (some ⟨gf, 0, none⟩) n cf s.A :: blk g3 (rqC p q a c N m s.W 4 8 (some ⟨gf, 0, none⟩) n cf s.hand) 41 :: F) ?_ ?_
   · refine ⟨_, _, ⟨_, 0, Nat.zero_le _, rfl, (updS rfl (updS rfl (updS rfl (updS rfl rfl)))), rfl⟩, Sub.any⟩
   ·
    rintro mz fz lz ⟨f0, k, hk, hmz, rfl, rfl⟩
    subst mz
    try simp only [List.cons_append, List.nil_append]
    refine T.seq ?_
    refine T.region ?_
    refine LW.q rfl (Qt.lss rfl rfl) ?_
    refine LW.done ?_
    refine T.seq ?_
    refine T.condP rfl (fun hlt => ?_) (fun hlt => ?_)
    ·
     have hrl := h.ok.rd k (by omega)
     refine T.skip ?_
     refine T.seq ?_
     refine T.block ?_
     refine T.seq ?_
     refine T.region ?_
     refine LW.q rfl (Qt.move rfl) ?_
     refine LW.q rfl (Qt.assign rfl) ?_
     refine LW.done ?_
     refine T.seq ?_
     refine T.region ?_
     refine LW.q rfl (Qt.move rfl) ?_
     refine LW.q rfl (Qt.nilCheck rfl) ?_
     refine LW.q rfl (Qt.fieldAddr0 (by kernel_rfl) rfl) ?_
     first | refine LW.q rfl (Qt.load (by kernel_rfl) rfl rfl) ?_ | refine LW.q rfl (Qt.load (by kernel_rfl) rfl (map_at _ _ _ (by omega))) ?_ | refine LW.q rfl (Qt.load (by kernel_rfl) rfl (flat_cell0 _ _ _ (by intros; rfl) _ (by omega) (by rfl))) ?_ | refine LW.q rfl (Qt.load (by kernel_rfl) rfl (flat_cell _ _ _ (by intros; rfl) _ _ (by omega) (by rfl))) ?_ | refine LW.q rfl (Qt.load (by kernel_rfl) rfl (bytes_at _ _ (by omega))) ?_
     refine LW.q rfl (Qt.move rfl) ?_
     refine LW.e rfl (Ef.call (Dk.readF B b s.D k k rfl (by omega) (by omega)) Tryz.func16 rfl rfl rfl ?_)
     rintro _ _ ⟨g7, c7, rfl, rfl⟩
     try simp only [List.cons_append, List.nil_append]
     refine LW.q rfl (Qt.move rfl) ?_
     refine LW.q rfl (Qt.extract rfl rfl) ?_
     refine LW.q rfl (Qt.extract rfl rfl) ?_
     refine LW.q rfl (Qt.assign rfl) ?_
     refine LW.q rfl (Qt.assign rfl) ?_
     refine LW.done ?_
     refine T.seq ?_
     refine T.region ?_
     refine LW.q rfl (Qt.fieldAddr0 (by kernel_rfl) rfl) ?_
     first | refine LW.q rfl (Qt.loadAgg [_, _] (by kernel_rfl) rfl ⟨rfl, rfl, trivial⟩) ?_ | refine LW.q rfl (Qt.loadAgg [_, _] (by kernel_rfl) rfl (by exact rdl_flat _ _ _ (by intros; rfl) _ (by omega))) ?_
     refine LW.q rfl (Qt.move rfl) ?_
     refine LW.e rfl (Ef.call (Rf.read B p q a c N m k k rfl s.D.secs s.D.pend (by omega) (by omega) (by omega)) Tryz.func23 rfl rfl rfl ?_)
     rintro _ _ ⟨rfl, rfl⟩
     try simp only [List.cons_append, List.nil_append]
     refine LW.q rfl (Qt.move rfl) ?_
     refine LW.q rfl (Qt.extract rfl rfl) ?_
     refine LW.q rfl (Qt.extract rfl rfl) ?_
     refine LW.q rfl (Qt.assign rfl) ?_
     refine LW.q rfl (Qt.assign rfl) ?_
     refine LW.done ?_
     refine T.seq ?_
     refine T.region ?_
     refine LW.q rfl (Qt.move rfl) ?_
     refine LW.q rfl (Qt.neq rfl rfl) ?_
     refine LW.q rfl (Qt.move rfl) ?_
     first | refine LW.gF (t := 88) rfl rfl ?_ | refine LW.gF (t := 88) rfl (decide_eq_false (by omega)) ?_ | refine LW.gF (t := 88) rfl (by omega) ?_
     refine LW.q rfl (Qt.move rfl) ?_
     refine LW.q rfl (Qt.str (s.D.read k) (by kernel_rfl) (by kernel_rfl) rfl (fun _ ho => ho.reads_row hrl)) ?_
     refine LW.q rfl (Qt.move rfl) ?_
     refine LW.q rfl (Qt.neqS rfl rfl) ?_
     refine LW.q rfl (Qt.pick rfl rfl) ?_
     refine LW.done ?_
     first | refine T.condF rfl ?_ | refine T.condPF rfl ((by simp)) ?_ | refine T.condBF rfl ((by simp)) ?_
     refine T.skip ?_
     refine T.region ?_
     refine LW.q rfl (Qt.add rfl rfl (wr64 (by omega) (by omega))) ?_
     refine LW.q rfl (Qt.move rfl) ?_
     refine LW.done ?_
     refine ⟨_, ?_, _, ⟨_, k + 1, by omega, rfl, (updS rfl (updS rfl (updS rfl (updS rfl rfl)))), rfl⟩, Sub.any⟩
     first | omega | (simp; omega)
    ·
     refine T.exit ?_
     refine T.seq ?_
     refine T.region ?_
     refine LW.q rfl (Qt.assign rfl) ?_
     refine LW.done ?_
     refine T.ret ?_
     exact ⟨.inl rfl, _, _, res [_] rfl ⟨rvT rfl, trivial⟩, ⟨rfl, rfl⟩, Sub.any⟩
end Go.Proofs.YtegohgaccmkigaaGreatDoor

/- The document's log (annalsref05): Open. Conditions: sizes. -/
set_option linter.unusedSimpArgs false
set_option linter.unusedVariables false
namespace Go.Proofs.YtegohgaccmkigaaGreatDoor
open Go.RowKit

/-- What the document wipes, sector by sector. -/
def docWipe (W : Wl) (al : List UInt8) : DD → Nat → Nat → DD
  | D, _, 0 => D
  | D, n, k + 1 => docWipe W al (if (al.take ((n + 1) * 256)).drop (n * 256) = secW W.st n then D else D.write (W.first + n) (secW W.st n)) (n + 1) k
theorem docWipe_add (W : Wl) (al : List UInt8) : ∀ (k1 k2 n : Nat) (D : DD), docWipe W al D n (k1 + k2) = docWipe W al (docWipe W al D n k1) (n + k1) k2
  | 0, k2, n, D => by rw [Nat.zero_add]; rfl
  | k1 + 1, k2, n, D => by
    rw [show k1 + 1 + k2 = (k1 + k2) + 1 by omega, docWipe, docWipe_add W al k1 k2, docWipe, show n + 1 + k1 = n + (k1 + 1) by omega]
theorem docWipe_skip (W : Wl) (al : List UInt8) : ∀ (k n : Nat) (D : DD), (∀ j, n ≤ j → j < n + k → (al.take ((j + 1) * 256)).drop (j * 256) = secW W.st j) → docWipe W al D n k = D
  | 0, _, _, _ => rfl
  | k + 1, n, D, h => by
    rw [docWipe, if_pos (h n (by omega) (by omega))]
    exact docWipe_skip W al k (n + 1) D (fun j h1 h2 => h j (by omega) (by omega))
theorem docWipe_all (W : Wl) (al : List UInt8) : ∀ (k n : Nat) (D : DD), (∀ j, n ≤ j → j < n + k → (((al.take ((j + 1) * 256)).drop (max (j * 256) W.dur)).all (· == 0) = true ↔ (al.take ((j + 1) * 256)).drop (j * 256) = secW W.st j)) → docWipe W al D n k = wipeD W al D n k
  | 0, _, _, _ => rfl
  | k + 1, n, D, h => by
    have h0 := h n (by omega) (by omega)
    have hr := fun D => docWipe_all W al k (n + 1) D (fun j h1 h2 => h j (by omega) (by omega))
    rw [docWipe, wipeD, hr]
    by_cases e : (al.take ((n + 1) * 256)).drop (n * 256) = secW W.st n
    · rw [if_pos e, if_pos (h0.2 e)]
    · rw [if_neg e, if_neg (fun x => e (h0.1 x))]
set_option maxRecDepth 100000 in
theorem sec_split {al : List UInt8} {j k count : Nat} (hlen : al.length = count * 256) (hj : j < count) (hk3 : k < (j + 1) * 256) : (al.take ((j + 1) * 256)).drop (j * 256) = ((al.take k).drop (j * 256)) ++ ((al.take ((j + 1) * 256)).drop (max (j * 256) k)) := by
  obtain ⟨lo, hlo⟩ : ∃ lo, max (j * 256) k = lo := ⟨_, rfl⟩
  rw [hlo]
  by_cases hjk : j * 256 ≤ k
  · obtain rfl : k = lo := by omega
    have : al.take ((j + 1) * 256) = al.take k ++ (al.take ((j + 1) * 256)).drop k := by
      have := List.take_append_drop k (al.take ((j + 1) * 256))
      rw [List.take_take, Nat.min_eq_left (by omega)] at this
      exact this.symm
    conv => lhs; rw [this]
    rw [List.drop_append_of_le_length (by simp; omega)]
  · obtain rfl : j * 256 = lo := by omega
    rw [List.drop_of_length_le (l := al.take k) (by simp; omega), List.nil_append]
set_option maxRecDepth 100000 in
theorem docWipe_eq {first count k : Nat} {s : UInt32} {al : List UInt8} (D : DD) (hlen : al.length = count * 256) (hk : k ≤ count * 256) :
    docWipe ⟨first, count, al.take k, s, k⟩ al D 0 count = wipeD ⟨first, count, al.take k, s, k⟩ al D (k / 256) (count - k / 256) := by
  have hc := docWipe_add ⟨first, count, al.take k, s, k⟩ al (k / 256) (count - k / 256) 0 D
  rw [show k / 256 + (count - k / 256) = count by omega] at hc
  rw [hc, docWipe_skip _ _ (k / 256) 0 D (fun j h1 h2 => ?_), Nat.zero_add, docWipe_all]
  · intro j h1 h2
    have hj : j < count := by omega
    have hk3 : k < (j + 1) * 256 := by omega
    have e := sec_split hlen hj hk3
    show ((al.take ((j + 1) * 256)).drop (max (j * 256) k)).all (· == 0) = true ↔ _
    obtain ⟨Z, hZ⟩ : ∃ Z, (al.take ((j + 1) * 256)).drop (max (j * 256) k) = Z := ⟨_, rfl⟩
    have hx : ((al.take k).drop (j * 256)).take 256 = (al.take k).drop (j * 256) := List.take_of_length_le (by simp; omega)
    have hl : 256 - ((al.take k).drop (j * 256)).length = Z.length := by
      rw [← hZ]
      simp only [List.length_drop, List.length_take]
      omega
    rw [hZ] at e
    rw [e, hZ]
    show _ ↔ _ = secW (al.take k) j
    unfold secW
    rw [hx, hl]
    constructor
    · intro h
      rw [← all_zero h]
    · intro h
      have := List.append_cancel_left h
      rw [this]
      simp
  · show _ = secW (al.take k) j
    rw [secW_take (by omega)]
    unfold secW
    have e : ((al.drop (j * 256)).take 256).length = 256 := by simp; omega
    rw [e, List.drop_take, show (j + 1) * 256 - j * 256 = 256 by omega]
    simp

/-- What is left to scan, behind the records R. -/
def ScanG (al : List UInt8) (m k : Nat) (s : UInt32) (R : List (Nat × List UInt8)) : Prop := ∃ f, m < f + k ∧ scanW al (m + 1) 0 0 = ((scanW al f k s).1, (scanW al f k s).2.1, R ++ (scanW al f k s).2.2)
theorem ScanG.init (al : List UInt8) (m : Nat) : ScanG al m 0 0 [] := ⟨m + 1, by omega, rfl⟩
theorem ScanG.stop {al : List UInt8} {m k : Nat} {s : UInt32} {R : List (Nat × List UInt8)} (h : ScanG al m k s R) (ht : takeRec al k s = none) : scanW al (m + 1) 0 0 = (k, s, R) := by
  obtain ⟨f, _, e⟩ := h
  rw [e, scan_none ht, List.append_nil]
theorem ScanG.next {al : List UInt8} {m k nn : Nat} {s s' : UInt32} {R : List (Nat × List UInt8)} (h : ScanG al m k s R) (hk : k ≤ m) (ht : takeRec al k s = some (nn, s')) : ScanG al m (k + (8 + nn)) s' (R ++ [(k + (8 + nn), ((al.drop k).take (8 + nn)).drop 8)]) := by
  obtain ⟨f, hf, e⟩ := h
  cases f with
  | zero => omega
  | succ f =>
    refine ⟨f, by omega, ?_⟩
    rw [e, scanW, ht]
    simp
/-- The document takes a record just where the program does. -/
theorem docTake {al : List UInt8} {k nn first count dur : Nat} {s : UInt32} (hnn : (get64 ((al.drop k).take 4)).toNat = nn) (h8 : 8 ≤ al.length - k) (h0 : nn ≠ 0) (h1 : nn ≤ 1024) (h2 : nn ≤ al.length - k - 8) (hc : al.length = count * 256) :
    ∃ st s', addW ⟨first, count, al.take k, s, dur⟩ (((al.drop k).take (8 + nn)).drop 8) = (⟨first, count, st, s', dur⟩, ((k + (8 + nn) : Nat) : Int), 0) ∧ st.length = k + (8 + nn) ∧
      ((st = al.take (k + (8 + nn)) ∧ takeRec al k s = some (nn, s')) ∨ (st ≠ al.take (k + (8 + nn)) ∧ takeRec al k s = none)) := by
  obtain ⟨d, hd⟩ : ∃ d, ((al.drop k).take (8 + nn)).drop 8 = d := ⟨_, rfl⟩
  have hdl : d.length = nn := by rw [← hd]; simp; omega
  have hkl : (al.take k).length = k := by simp; omega
  have hb : (get64 ((al.drop k).take 4)) = UInt64.ofInt nn := by apply UInt64.toNat_inj.1; rw [hnn, len_u64 _ h1]
  have f1 : be (UInt64.ofInt nn) 4 = (al.drop k).take 4 := by
    have h4 : ((al.drop k).take 4).length = 4 := by simp; omega
    have := be_get64 (l := (al.drop k).take 4) (by omega)
    rw [h4, hb] at this
    exact this
  rw [hd]
  have hadd : addW ⟨first, count, al.take k, s, dur⟩ d = (⟨first, count, al.take k ++ recB s k d, sealW s k d, dur⟩, ((k + (8 + nn) : Nat) : Int), 0) := by
    unfold addW
    rw [if_neg (by omega), if_neg (by omega), if_neg (by show ¬ count * 256 < (al.take k).length + 8 + d.length; omega)]
    simp only [hkl, recB, List.append_assoc, hdl]
    congr 2
    omega
  refine ⟨_, _, hadd, by rw [List.length_append, length_recB]; omega, ?_⟩
  have hsp : (al.drop k).take (8 + nn) = (al.drop k).take 4 ++ (((al.drop k).take 8).drop 4 ++ d) := by
    rw [← hd]
    have g1 : ((al.drop k).take 8).drop 4 = ((al.drop k).drop 4).take 4 := by rw [List.drop_take]
    have g2 : ((al.drop k).take (8 + nn)).drop 8 = ((al.drop k).drop 8).take nn := by rw [List.drop_take]; congr 1; omega
    rw [g1, g2, show 8 + nn = 4 + (4 + nn) by omega, List.take_add, List.take_add, List.drop_drop, List.drop_drop, List.drop_drop]
  by_cases hs : sealW s k d = (get64 (((al.drop k).take 8).drop 4)).toUInt32
  · have ht := takeRec_yes (s := s) hnn h8 h0 h1 h2 (by rw [hd]; exact hs)
    rw [← hs] at ht
    refine .inl ⟨?_, ht⟩
    obtain ⟨d', e0, _, _, _, e4, _⟩ := take_back ht
    rw [hd] at e0
    subst e0
    rw [List.take_add, e4]
  · refine .inr ⟨fun h => hs ?_, takeRec_no hnn (.inr (.inr (.inr (by rw [hd]; exact hs))))⟩
    rw [List.take_add] at h
    have h3 := List.append_cancel_left h
    rw [hsp, recB, hdl, f1, List.append_assoc] at h3
    have h4 := List.append_cancel_left h3
    have h5 : be (sealW s k d).toUInt64 4 = ((al.drop k).take 8).drop 4 := (List.append_inj h4 (by rw [length_be]; simp; omega)).1
    rw [← h5, u32_back]

/-- The document's records. -/
abbrev drecC (x : Nat × List UInt8) : List Value := [.int .i64 x.1, strW x.2]
abbrev drecR (q : Option Addr) (n c : Nat) (R : List (Nat × List UInt8)) : Assn := row (.slice q n c) 85 2 n (R.flatMap drecC)
theorem Rl.elemR : ElemOk Tryz.prog 36 85 2 24 := .mk' (.agg #[.int .i64 0, .string ⟨#[]⟩]) Tryz.underlying36 (by kernel_rfl) rfl (by omega)

end Go.Proofs.YtegohgaccmkigaaGreatDoor
