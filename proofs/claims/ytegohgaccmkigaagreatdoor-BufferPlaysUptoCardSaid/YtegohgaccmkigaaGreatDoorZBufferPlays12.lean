/- The law BufferPlays of annalslaw06 holds (its card): for all arguments of bulk at most 1048576 the call returns true and the arguments read as before. Condition: the bound of the second form. -/
import Derived.Test.YtegohgaccmkigaaGreatDoorZBufferPlays11
/- The statement BufferPlays: a step; the whole. Conditions: that what is handed in can be read; sizes. -/
set_option linter.unusedSimpArgs false
set_option linter.unusedVariables false
namespace Go.Proofs.YtegohgaccmkigaaGreatDoor
open Go.RowKit

structure OpB where
  kind : Int
  page : Int
  data : List UInt8
  mark : Int
/-- One call at the model. -/
def stepPl (s : Pl) (o : OpB) : Pl :=
  if o.kind = 0 then (pinP 4 8 s o.page).1 else if o.kind = 1 then { s with A := (unpinA s.A o.page).1 } else if o.kind = 2 then { s with A := (putA s.A o.page o.data o.mark).1 }
  else if o.kind = 3 then s else if o.kind = 4 then flushP 4 s else if o.kind = 5 then { s with W := (addW s.W o.data).1 } else s
theorem PInv.step {n K : Nat} {s : Pl} (h : PInv 4 8 n K s) (hK : K < 2 ^ 31) (o : OpB) (hm : -(2 ^ 63) ≤ o.mark ∧ o.mark < 2 ^ 63) : PInv 4 8 n (K + 1) (stepPl s o) := by
  unfold stepPl
  split
  · exact h.pin hK _
  · split
    · exact (h.unpin _).mono (Nat.le_succ _)
    · split
      · exact (h.put _ _ _ hm).mono (Nat.le_succ _)
      · split
        · exact h.mono (Nat.le_succ _)
        · split
          · exact (h.flush hK).mono (Nat.le_succ _)
          · split
            · exact (h.append _).mono (Nat.le_succ _)
            · exact h.mono (Nat.le_succ _)
/-- What a step leaves. -/
def StepR (gb g b gl n N : Nat) (s' : Pl) (v : Value) (l : List Assn) : Prop := ∃ p q a c m pf cf, s'.D.pend.length = m ∧ v = .tuple #[rqV p q a c N m s'.W 4 8 pf n cf s'.hand, .bool true] ∧
  l = [benchB gb b gl g, plA g b n 4 8 s'.hand gl s'.A, wlA gl b s'.W, dskA b s'.D, rS (.slice p N a) N s'.D.secs, rW (.slice q m c) m s'.D.pend, raR pf n cf s'.A]

set_option maxHeartbeats 16000000 in
set_option maxRecDepth 100000 in
theorem Rp.step (B : Base) (gb g b gl n K : Nat) (s s' : Pl) (h : PInv 4 8 n K s) (hK : K < 2 ^ 30) (p q : Option Addr) (a c N m : Nat) (pf : Option Addr) (cf : Nat) (hN : s.D.secs.length = N) (hm : s.D.pend.length = m) (o : OpB) (da : Option Addr) (dc : Nat) (hd : RoS B (.slice da o.data.length dc) (bytesV o.data)) (hdl : o.data.length ≤ 1048576) (hs' : stepPl s o = s') :
  Fn Tryz.prog B 10 #[.pointer (some ⟨gb, 0, none⟩), rqV p q a c N m s.W 4 8 pf n cf s.hand, .agg #[.int .i64 o.kind, .int .i64 o.page, .slice da o.data.length dc, .int .i64 o.mark]] [benchB gb b gl g, plA g b n 4 8 s.hand gl s.A, wlA gl b s.W, dskA b s.D, rS (.slice p N a) N s.D.secs, rW (.slice q m c) m s.D.pend, raR pf n cf s.A] (StepR gb g b gl n N s') := by
 have hn := h.F.len
 have hn2 := h.F.n2
 have hn1 := h.F.n1
 have hmax := h.ok.max
 have hpe := h.pend
 have hwd := h.wdur
 have hwst := h.wst
 have hfit := h.fit
 have hsec := h.sec
 have hpins : ∀ x ∈ s.A, x.pins < 2 ^ 62 := fun x hx => by have := h.pins x hx; omega
 obtain ⟨A, hand, W, D⟩ := s
 dsimp only at hn hn2 hmax hpe hwd hwst hfit hsec hpins hN hm ⊢
 refine Fn.enter3 167 Tryz.func10 rfl rfl (Nat.le_of_ble_eq_true rfl) (fun F => ?_)
 try simp only [List.cons_append, List.nil_append]
 refine T.seq ?_
 refine T.region ?_
 refine LW.e rfl (Ef.box [_, _, _, _, _, _, _, _, _, _, _] rfl rfl ?_)
 intro g4
 refine LW.e rfl (Ef.box [_, _, _, _] rfl rfl ?_)
 intro g5
 refine LW.e rfl (Ef.alloc [.slice none 0 0, .slice none 0 0, .string .empty, .int .u32 0, .int .i64 0, .int .i64 0, .int .i64 0, .int .i64 0, .int .i64 0, .slice none 0 0, .int .i64 0] (by unfold zeroB; kernel_rfl) ?_)
 intro g6
 refine LW.q rfl (Qt.assign rfl) ?_
 refine LW.done ?_
 refine T.seq ?_
 refine T.seq ?_
 refine T.region ?_
 refine LW.q rfl (Qt.fieldAddr0 (by kernel_rfl) rfl) ?_
 first | refine LW.q rfl (Qt.load (by kernel_rfl) rfl rfl) ?_ | refine LW.q rfl (Qt.load (by kernel_rfl) rfl (map_at _ _ _ (by omega))) ?_ | refine LW.q rfl (Qt.load (by kernel_rfl) rfl (flat_cell0 _ _ _ (by intros; rfl) _ (by omega) (by rfl))) ?_ | refine LW.q rfl (Qt.load (by kernel_rfl) rfl (flat_cell _ _ _ (by intros; rfl) _ _ (by omega) (by rfl))) ?_ | refine LW.q rfl (Qt.load (by kernel_rfl) rfl (bytes_at _ _ (by omega))) ?_
 refine LW.done ?_
 refine T.block ?_
 refine T.seq ?_
 refine T.region ?_
 refine LW.q rfl (Qt.eql rfl rfl) ?_
 refine LW.q rfl (Qt.assign rfl) ?_
 refine LW.done ?_
 refine T.condP rfl (fun k0 => ?_) (fun k0 => ?_)
 ·
  rw [show stepPl ⟨A, hand, W, D⟩ o = (pinP 4 8 ⟨A, hand, W, D⟩ o.page).1 by unfold stepPl; rw [if_pos k0]] at hs'
  obtain ⟨⟨s2, e2⟩, hpin⟩ : ∃ r, pinP 4 8 ⟨A, hand, W, D⟩ o.page = r := ⟨_, rfl⟩
  rw [hpin] at hs'
  dsimp only at hs'
  subst hs'
  refine T.seq ?_
  refine T.region ?_
  first | refine LW.q rfl (Qt.loadAgg [_, _, _, _, _, _, _, _, _, _, _] (by kernel_rfl) rfl ⟨rfl, rfl, rfl, rfl, rfl, rfl, rfl, rfl, rfl, rfl, rfl, trivial⟩) ?_ | refine LW.q rfl (Qt.loadAgg [_, _, _, _, _, _, _, _, _, _, _] (by kernel_rfl) rfl (by exact rdl_flat _ _ _ (by intros; rfl) _ (by omega))) ?_
  refine LW.q rfl (Qt.fieldAddr (off := 1) (by kernel_rfl) rfl) ?_
  first | refine LW.q rfl (Qt.load (by kernel_rfl) rfl rfl) ?_ | refine LW.q rfl (Qt.load (by kernel_rfl) rfl (map_at _ _ _ (by omega))) ?_ | refine LW.q rfl (Qt.load (by kernel_rfl) rfl (flat_cell0 _ _ _ (by intros; rfl) _ (by omega) (by rfl))) ?_ | refine LW.q rfl (Qt.load (by kernel_rfl) rfl (flat_cell _ _ _ (by intros; rfl) _ _ (by omega) (by rfl))) ?_ | refine LW.q rfl (Qt.load (by kernel_rfl) rfl (bytes_at _ _ (by omega))) ?_
  refine LW.e rfl (Ef.call (Rp.pin B p q a c N m W D 4 8 pf n cf hand A o.page h.F hpins h.hand hN hm (h.w (by omega)) h.ok (by omega) (by omega) (s2, e2) hpin) Tryz.func29 rfl rfl rfl ?_)
  rintro _ _ ⟨p3, q3, a3, c3, m3, pf3, cf3, hm3, rfl, rfl⟩
  try simp only [List.cons_append, List.nil_append]
  refine LW.q rfl (Qt.move rfl) ?_
  refine LW.q rfl (Qt.extract rfl rfl) ?_
  refine LW.q rfl (Qt.extract rfl rfl) ?_
  refine LW.e rfl (Ef.alloc [.slice none 0 0, .slice none 0 0, .string .empty, .int .u32 0, .int .i64 0, .int .i64 0, .int .i64 0, .int .i64 0, .int .i64 0, .slice none 0 0, .int .i64 0] (by unfold zeroB; kernel_rfl) ?_)
  intro g8
  refine LW.e0 rfl (Ef.store [_, _, _, _, _, _, _, _, _, _, _] (by kernel_rfl) rfl rfl rfl rfl (by simp) ?_)
  try simp only [splice, List.length_cons, List.length_nil, List.drop_succ_cons, List.cons_append, List.take_succ_cons, List.take_zero, List.drop_zero, List.nil_append, List.append_nil]
  refine LW.q rfl (Qt.assign rfl) ?_
  refine LW.done ?_
  refine T.seq ?_
  refine T.drawBl 11 (some g6) (by kernel_rfl) (Nat.le_of_ble_eq_true rfl) (by kernel_rfl) ?_
  first | refine RW.q 0 rfl rfl (by kernel_rfl) Sub.any (Qt.loadAgg [_, _, _, _, _, _, _, _, _, _, _] (by kernel_rfl) rfl ⟨rfl, rfl, rfl, rfl, rfl, rfl, rfl, rfl, rfl, rfl, rfl, trivial⟩) ?_ | refine RW.q 0 rfl rfl (by kernel_rfl) Sub.any (Qt.loadAgg [_, _, _, _, _, _, _, _, _, _, _] (by kernel_rfl) rfl (by exact rdl_flat _ _ _ (by intros; rfl) _ (by omega))) ?_
  refine RW.q 1 rfl rfl (by kernel_rfl) Sub.any (Qt.move rfl) ?_
  refine RW.q 2 rfl rfl (by kernel_rfl) Sub.any (Qt.nilCheck rfl) ?_
  refine RW.q 3 rfl rfl (by kernel_rfl) Sub.any (Qt.fieldAddr (off := 2) (by kernel_rfl) rfl) ?_
  first | refine RW.q 4 rfl rfl (by kernel_rfl) Sub.any (Qt.load (by kernel_rfl) rfl rfl) ?_ | refine RW.q 4 rfl rfl (by kernel_rfl) Sub.any (Qt.load (by kernel_rfl) rfl (map_at _ _ _ (by omega))) ?_ | refine RW.q 4 rfl rfl (by kernel_rfl) Sub.any (Qt.load (by kernel_rfl) rfl (flat_cell0 _ _ _ (by intros; rfl) _ (by omega) (by rfl))) ?_ | refine RW.q 4 rfl rfl (by kernel_rfl) Sub.any (Qt.load (by kernel_rfl) rfl (flat_cell _ _ _ (by intros; rfl) _ _ (by omega) (by rfl))) ?_ | refine RW.q 4 rfl rfl (by kernel_rfl) Sub.any (Qt.load (by kernel_rfl) rfl (bytes_at _ _ (by omega))) ?_
  refine RW.q 5 rfl rfl (by kernel_rfl) Sub.any (Qt.fieldAddr (off := 1) (by kernel_rfl) rfl) ?_
  first | refine RW.q 6 rfl rfl (by kernel_rfl) Sub.any (Qt.load (by kernel_rfl) rfl rfl) ?_ | refine RW.q 6 rfl rfl (by kernel_rfl) Sub.any (Qt.load (by kernel_rfl) rfl (map_at _ _ _ (by omega))) ?_ | refine RW.q 6 rfl rfl (by kernel_rfl) Sub.any (Qt.load (by kernel_rfl) rfl (flat_cell0 _ _ _ (by intros; rfl) _ (by omega) (by rfl))) ?_ | refine RW.q 6 rfl rfl (by kernel_rfl) Sub.any (Qt.load (by kernel_rfl) rfl (flat_cell _ _ _ (by intros; rfl) _ _ (by omega) (by rfl))) ?_ | refine RW.q 6 rfl rfl (by kernel_rfl) Sub.any (Qt.load (by kernel_rfl) rfl (bytes_at _ _ (by omega))) ?_
  refine RW.q 8 rfl rfl (by kernel_rfl) Sub.any (Qt.move rfl) ?_
  refine RW.one 7 (by kernel_rfl) ?_
  refine RO.eS rfl rfl (Ef.call (Bp.pin B g b n 4 8 hand gl A W D o.page h.F hpins h.hand (h.w (by omega)) h.ok (by omega) (by omega)) Tryz.func12 rfl rfl rfl ?_)
  rintro _ _ ⟨rfl, rfl⟩
  try simp only [List.cons_append, List.nil_append]
  rw [hpin]
  refine ⟨Sub.any, ?_⟩
  refine RW.q 9 rfl rfl (by kernel_rfl) Sub.any (Qt.eql rfl rfl) ?_
  refine RW.one 10 (by kernel_rfl) ?_
  refine RO.eS0 rfl rfl (Ef.store [_, _, _, _, _, _, _, _, _, _, _] (by kernel_rfl) rfl rfl rfl rfl (by simp) ?_)
  try simp only [splice, List.length_cons, List.length_nil, List.drop_succ_cons, List.cons_append, List.take_succ_cons, List.take_zero, List.drop_zero, List.nil_append, List.append_nil]
  refine ⟨Sub.any, ?_⟩
  refine RW.done (by rfl) ?_
  simp only [List.drop_succ_cons, List.drop_zero, List.drop_nil]
  refine LW.q rfl (Qt.assign rfl) ?_
  refine LW.done ?_
  refine T.ret ?_
  exact ⟨.inl rfl, _, _, res [_, _] rfl ⟨rvA [_, _, _, _, _, _, _, _, _, _, _] (by kernel_rfl) rfl ⟨rfl, rfl, rfl, rfl, rfl, rfl, rfl, rfl, rfl, rfl, rfl, trivial⟩, rvT rfl, trivial⟩, ⟨p3, q3, a3, c3, m3, pf3, cf3, hm3, by simp [outV], rfl⟩, Sub.any⟩
 ·
  refine T.seq ?_
  refine T.region ?_
  refine LW.q rfl (Qt.eql rfl rfl) ?_
  refine LW.q rfl (Qt.assign rfl) ?_
  refine LW.done ?_
  refine T.condP rfl (fun k1 => ?_) (fun k1 => ?_)
  ·
   rw [show stepPl ⟨A, hand, W, D⟩ o = ⟨(unpinA A o.page).1, hand, W, D⟩ by unfold stepPl; rw [if_neg k0, if_pos k1]] at hs'
   subst hs'
   refine T.seq ?_
   refine T.region ?_
   first | refine LW.q rfl (Qt.loadAgg [_, _, _, _, _, _, _, _, _, _, _] (by kernel_rfl) rfl ⟨rfl, rfl, rfl, rfl, rfl, rfl, rfl, rfl, rfl, rfl, rfl, trivial⟩) ?_ | refine LW.q rfl (Qt.loadAgg [_, _, _, _, _, _, _, _, _, _, _] (by kernel_rfl) rfl (by exact rdl_flat _ _ _ (by intros; rfl) _ (by omega))) ?_
   refine LW.q rfl (Qt.fieldAddr (off := 1) (by kernel_rfl) rfl) ?_
   first | refine LW.q rfl (Qt.load (by kernel_rfl) rfl rfl) ?_ | refine LW.q rfl (Qt.load (by kernel_rfl) rfl (map_at _ _ _ (by omega))) ?_ | refine LW.q rfl (Qt.load (by kernel_rfl) rfl (flat_cell0 _ _ _ (by intros; rfl) _ (by omega) (by rfl))) ?_ | refine LW.q rfl (Qt.load (by kernel_rfl) rfl (flat_cell _ _ _ (by intros; rfl) _ _ (by omega) (by rfl))) ?_ | refine LW.q rfl (Qt.load (by kernel_rfl) rfl (bytes_at _ _ (by omega))) ?_
   refine LW.e rfl (Ef.call (Rp.unpin B p q a c N m W 4 8 pf n cf hand A hn hn2 o.page hpins) Tryz.func30 rfl rfl rfl ?_)
   rintro _ _ ⟨pf3, cf3, rfl, rfl⟩
   try simp only [List.cons_append, List.nil_append]
   refine LW.q rfl (Qt.move rfl) ?_
   refine LW.q rfl (Qt.extract rfl rfl) ?_
   refine LW.q rfl (Qt.extract rfl rfl) ?_
   refine LW.e rfl (Ef.alloc [.slice none 0 0, .slice none 0 0, .string .empty, .int .u32 0, .int .i64 0, .int .i64 0, .int .i64 0, .int .i64 0, .int .i64 0, .slice none 0 0, .int .i64 0] (by unfold zeroB; kernel_rfl) ?_)
   intro g10
   refine LW.e0 rfl (Ef.store [_, _, _, _, _, _, _, _, _, _, _] (by kernel_rfl) rfl rfl rfl rfl (by simp) ?_)
   try simp only [splice, List.length_cons, List.length_nil, List.drop_succ_cons, List.cons_append, List.take_succ_cons, List.take_zero, List.drop_zero, List.nil_append, List.append_nil]
   refine LW.q rfl (Qt.assign rfl) ?_
   refine LW.done ?_
   refine T.seq ?_
   refine T.drawBl 11 (some g6) (by kernel_rfl) (Nat.le_of_ble_eq_true rfl) (by kernel_rfl) ?_
   first | refine RW.q 0 rfl rfl (by kernel_rfl) Sub.any (Qt.loadAgg [_, _, _, _, _, _, _, _, _, _, _] (by kernel_rfl) rfl ⟨rfl, rfl, rfl, rfl, rfl, rfl, rfl, rfl, rfl, rfl, rfl, trivial⟩) ?_ | refine RW.q 0 rfl rfl (by kernel_rfl) Sub.any (Qt.loadAgg [_, _, _, _, _, _, _, _, _, _, _] (by kernel_rfl) rfl (by exact rdl_flat _ _ _ (by intros; rfl) _ (by omega))) ?_
   refine RW.q 1 rfl rfl (by kernel_rfl) Sub.any (Qt.move rfl) ?_
   refine RW.q 2 rfl rfl (by kernel_rfl) Sub.any (Qt.nilCheck rfl) ?_
   refine RW.q 3 rfl rfl (by kernel_rfl) Sub.any (Qt.fieldAddr (off := 2) (by kernel_rfl) rfl) ?_
   first | refine RW.q 4 rfl rfl (by kernel_rfl) Sub.any (Qt.load (by kernel_rfl) rfl rfl) ?_ | refine RW.q 4 rfl rfl (by kernel_rfl) Sub.any (Qt.load (by kernel_rfl) rfl (map_at _ _ _ (by omega))) ?_ | refine RW.q 4 rfl rfl (by kernel_rfl) Sub.any (Qt.load (by kernel_rfl) rfl (flat_cell0 _ _ _ (by intros; rfl) _ (by omega) (by rfl))) ?_ | refine RW.q 4 rfl rfl (by kernel_rfl) Sub.any (Qt.load (by kernel_rfl) rfl (flat_cell _ _ _ (by intros; rfl) _ _ (by omega) (by rfl))) ?_ | refine RW.q 4 rfl rfl (by kernel_rfl) Sub.any (Qt.load (by kernel_rfl) rfl (bytes_at _ _ (by omega))) ?_
   refine RW.q 5 rfl rfl (by kernel_rfl) Sub.any (Qt.fieldAddr (off := 1) (by kernel_rfl) rfl) ?_
   first | refine RW.q 6 rfl rfl (by kernel_rfl) Sub.any (Qt.load (by kernel_rfl) rfl rfl) ?_ | refine RW.q 6 rfl rfl (by kernel_rfl) Sub.any (Qt.load (by kernel_rfl) rfl (map_at _ _ _ (by omega))) ?_ | refine RW.q 6 rfl rfl (by kernel_rfl) Sub.any (Qt.load (by kernel_rfl) rfl (flat_cell0 _ _ _ (by intros; rfl) _ (by omega) (by rfl))) ?_ | refine RW.q 6 rfl rfl (by kernel_rfl) Sub.any (Qt.load (by kernel_rfl) rfl (flat_cell _ _ _ (by intros; rfl) _ _ (by omega) (by rfl))) ?_ | refine RW.q 6 rfl rfl (by kernel_rfl) Sub.any (Qt.load (by kernel_rfl) rfl (bytes_at _ _ (by omega))) ?_
   refine RW.q 8 rfl rfl (by kernel_rfl) Sub.any (Qt.move rfl) ?_
   refine RW.one 7 (by kernel_rfl) ?_
   refine RO.eS rfl rfl (Ef.call (Bp.unpin B g b n 4 8 hand gl A o.page hn hn2 hpins) Tryz.func15 rfl rfl rfl ?_)
   rintro _ _ ⟨rfl, rfl⟩
   try simp only [List.cons_append, List.nil_append]
   refine ⟨Sub.any, ?_⟩
   refine RW.q 9 rfl rfl (by kernel_rfl) Sub.any (Qt.eql rfl rfl) ?_
   refine RW.one 10 (by kernel_rfl) ?_
   refine RO.eS0 rfl rfl (Ef.store [_, _, _, _, _, _, _, _, _, _, _] (by kernel_rfl) rfl rfl rfl rfl (by simp) ?_)
   try simp only [splice, List.length_cons, List.length_nil, List.drop_succ_cons, List.cons_append, List.take_succ_cons, List.take_zero, List.drop_zero, List.nil_append, List.append_nil]
   refine ⟨Sub.any, ?_⟩
   refine RW.done (by rfl) ?_
   simp only [List.drop_succ_cons, List.drop_zero, List.drop_nil]
   refine LW.q rfl (Qt.assign rfl) ?_
   refine LW.done ?_
   refine T.ret ?_
   exact ⟨.inl rfl, _, _, res [_, _] rfl ⟨rvA [_, _, _, _, _, _, _, _, _, _, _] (by kernel_rfl) rfl ⟨rfl, rfl, rfl, rfl, rfl, rfl, rfl, rfl, rfl, rfl, rfl, trivial⟩, rvT rfl, trivial⟩, ⟨p, q, a, c, m, pf3, cf3, hm, by simp [outV], rfl⟩, Sub.any⟩
  ·
   refine T.seq ?_
   refine T.region ?_
   refine LW.q rfl (Qt.eql rfl rfl) ?_
   refine LW.q rfl (Qt.assign rfl) ?_
   refine LW.done ?_
   refine T.condP rfl (fun k2 => ?_) (fun k2 => ?_)
   ·
    rw [show stepPl ⟨A, hand, W, D⟩ o = ⟨(putA A o.page o.data o.mark).1, hand, W, D⟩ by unfold stepPl; rw [if_neg k0, if_neg k1, if_pos k2]] at hs'
    subst hs'
    refine T.seq ?_
    refine T.region ?_
    first | refine LW.q rfl (Qt.loadAgg [_, _, _, _, _, _, _, _, _, _, _] (by kernel_rfl) rfl ⟨rfl, rfl, rfl, rfl, rfl, rfl, rfl, rfl, rfl, rfl, rfl, trivial⟩) ?_ | refine LW.q rfl (Qt.loadAgg [_, _, _, _, _, _, _, _, _, _, _] (by kernel_rfl) rfl (by exact rdl_flat _ _ _ (by intros; rfl) _ (by omega))) ?_
    refine LW.q rfl (Qt.fieldAddr (off := 1) (by kernel_rfl) rfl) ?_
    first | refine LW.q rfl (Qt.load (by kernel_rfl) rfl rfl) ?_ | refine LW.q rfl (Qt.load (by kernel_rfl) rfl (map_at _ _ _ (by omega))) ?_ | refine LW.q rfl (Qt.load (by kernel_rfl) rfl (flat_cell0 _ _ _ (by intros; rfl) _ (by omega) (by rfl))) ?_ | refine LW.q rfl (Qt.load (by kernel_rfl) rfl (flat_cell _ _ _ (by intros; rfl) _ _ (by omega) (by rfl))) ?_ | refine LW.q rfl (Qt.load (by kernel_rfl) rfl (bytes_at _ _ (by omega))) ?_
    refine LW.q rfl (Qt.fieldAddr (off := 2) (by kernel_rfl) rfl) ?_
    first | refine LW.q rfl (Qt.load (by kernel_rfl) rfl rfl) ?_ | refine LW.q rfl (Qt.load (by kernel_rfl) rfl (map_at _ _ _ (by omega))) ?_ | refine LW.q rfl (Qt.load (by kernel_rfl) rfl (flat_cell0 _ _ _ (by intros; rfl) _ (by omega) (by rfl))) ?_ | refine LW.q rfl (Qt.load (by kernel_rfl) rfl (flat_cell _ _ _ (by intros; rfl) _ _ (by omega) (by rfl))) ?_ | refine LW.q rfl (Qt.load (by kernel_rfl) rfl (bytes_at _ _ (by omega))) ?_
    refine LW.q rfl (Qt.str o.data (by kernel_rfl) (by kernel_rfl) rfl (hd.rd _).str) ?_
    refine LW.q rfl (Qt.fieldAddr (off := 3) (by kernel_rfl) rfl) ?_
    first | refine LW.q rfl (Qt.load (by kernel_rfl) rfl rfl) ?_ | refine LW.q rfl (Qt.load (by kernel_rfl) rfl (map_at _ _ _ (by omega))) ?_ | refine LW.q rfl (Qt.load (by kernel_rfl) rfl (flat_cell0 _ _ _ (by intros; rfl) _ (by omega) (by rfl))) ?_ | refine LW.q rfl (Qt.load (by kernel_rfl) rfl (flat_cell _ _ _ (by intros; rfl) _ _ (by omega) (by rfl))) ?_ | refine LW.q rfl (Qt.load (by kernel_rfl) rfl (bytes_at _ _ (by omega))) ?_
    refine LW.e rfl (Ef.call (Rp.put B p q a c N m W 4 8 pf n cf hand A hn hn2 o.page o.data o.mark) Tryz.func31 rfl rfl rfl ?_)
    rintro _ _ ⟨pf3, cf3, rfl, rfl⟩
    try simp only [List.cons_append, List.nil_append]
    refine LW.q rfl (Qt.move rfl) ?_
    refine LW.q rfl (Qt.extract rfl rfl) ?_
    refine LW.q rfl (Qt.extract rfl rfl) ?_
    refine LW.e rfl (Ef.alloc [.slice none 0 0, .slice none 0 0, .string .empty, .int .u32 0, .int .i64 0, .int .i64 0, .int .i64 0, .int .i64 0, .int .i64 0, .slice none 0 0, .int .i64 0] (by unfold zeroB; kernel_rfl) ?_)
    intro g12
    refine LW.e0 rfl (Ef.store [_, _, _, _, _, _, _, _, _, _, _] (by kernel_rfl) rfl rfl rfl rfl (by simp) ?_)
    try simp only [splice, List.length_cons, List.length_nil, List.drop_succ_cons, List.cons_append, List.take_succ_cons, List.take_zero, List.drop_zero, List.nil_append, List.append_nil]
    refine LW.q rfl (Qt.assign rfl) ?_
    refine LW.done ?_
    refine T.seq ?_
    refine T.drawBl 15 (some g6) (by kernel_rfl) (Nat.le_of_ble_eq_true rfl) (by kernel_rfl) ?_
    first | refine RW.q 0 rfl rfl (by kernel_rfl) Sub.any (Qt.loadAgg [_, _, _, _, _, _, _, _, _, _, _] (by kernel_rfl) rfl ⟨rfl, rfl, rfl, rfl, rfl, rfl, rfl, rfl, rfl, rfl, rfl, trivial⟩) ?_ | refine RW.q 0 rfl rfl (by kernel_rfl) Sub.any (Qt.loadAgg [_, _, _, _, _, _, _, _, _, _, _] (by kernel_rfl) rfl (by exact rdl_flat _ _ _ (by intros; rfl) _ (by omega))) ?_
    refine RW.q 1 rfl rfl (by kernel_rfl) Sub.any (Qt.move rfl) ?_
    refine RW.q 2 rfl rfl (by kernel_rfl) Sub.any (Qt.nilCheck rfl) ?_
    refine RW.q 3 rfl rfl (by kernel_rfl) Sub.any (Qt.fieldAddr (off := 2) (by kernel_rfl) rfl) ?_
    first | refine RW.q 4 rfl rfl (by kernel_rfl) Sub.any (Qt.load (by kernel_rfl) rfl rfl) ?_ | refine RW.q 4 rfl rfl (by kernel_rfl) Sub.any (Qt.load (by kernel_rfl) rfl (map_at _ _ _ (by omega))) ?_ | refine RW.q 4 rfl rfl (by kernel_rfl) Sub.any (Qt.load (by kernel_rfl) rfl (flat_cell0 _ _ _ (by intros; rfl) _ (by omega) (by rfl))) ?_ | refine RW.q 4 rfl rfl (by kernel_rfl) Sub.any (Qt.load (by kernel_rfl) rfl (flat_cell _ _ _ (by intros; rfl) _ _ (by omega) (by rfl))) ?_ | refine RW.q 4 rfl rfl (by kernel_rfl) Sub.any (Qt.load (by kernel_rfl) rfl (bytes_at _ _ (by omega))) ?_
    refine RW.q 5 rfl rfl (by kernel_rfl) Sub.any (Qt.fieldAddr (off := 1) (by kernel_rfl) rfl) ?_
    first | refine RW.q 6 rfl rfl (by kernel_rfl) Sub.any (Qt.load (by kernel_rfl) rfl rfl) ?_ | refine RW.q 6 rfl rfl (by kernel_rfl) Sub.any (Qt.load (by kernel_rfl) rfl (map_at _ _ _ (by omega))) ?_ | refine RW.q 6 rfl rfl (by kernel_rfl) Sub.any (Qt.load (by kernel_rfl) rfl (flat_cell0 _ _ _ (by intros; rfl) _ (by omega) (by rfl))) ?_ | refine RW.q 6 rfl rfl (by kernel_rfl) Sub.any (Qt.load (by kernel_rfl) rfl (flat_cell _ _ _ (by intros; rfl) _ _ (by omega) (by rfl))) ?_ | refine RW.q 6 rfl rfl (by kernel_rfl) Sub.any (Qt.load (by kernel_rfl) rfl (bytes_at _ _ (by omega))) ?_
    refine RW.q 7 rfl rfl (by kernel_rfl) Sub.any (Qt.fieldAddr (off := 2) (by kernel_rfl) rfl) ?_
    first | refine RW.q 8 rfl rfl (by kernel_rfl) Sub.any (Qt.load (by kernel_rfl) rfl rfl) ?_ | refine RW.q 8 rfl rfl (by kernel_rfl) Sub.any (Qt.load (by kernel_rfl) rfl (map_at _ _ _ (by omega))) ?_ | refine RW.q 8 rfl rfl (by kernel_rfl) Sub.any (Qt.load (by kernel_rfl) rfl (flat_cell0 _ _ _ (by intros; rfl) _ (by omega) (by rfl))) ?_ | refine RW.q 8 rfl rfl (by kernel_rfl) Sub.any (Qt.load (by kernel_rfl) rfl (flat_cell _ _ _ (by intros; rfl) _ _ (by omega) (by rfl))) ?_ | refine RW.q 8 rfl rfl (by kernel_rfl) Sub.any (Qt.load (by kernel_rfl) rfl (bytes_at _ _ (by omega))) ?_
    refine RW.q 9 rfl rfl (by kernel_rfl) Sub.any (Qt.fieldAddr (off := 3) (by kernel_rfl) rfl) ?_
    first | refine RW.q 10 rfl rfl (by kernel_rfl) Sub.any (Qt.load (by kernel_rfl) rfl rfl) ?_ | refine RW.q 10 rfl rfl (by kernel_rfl) Sub.any (Qt.load (by kernel_rfl) rfl (map_at _ _ _ (by omega))) ?_ | refine RW.q 10 rfl rfl (by kernel_rfl) Sub.any (Qt.load (by kernel_rfl) rfl (flat_cell0 _ _ _ (by intros; rfl) _ (by omega) (by rfl))) ?_ | refine RW.q 10 rfl rfl (by kernel_rfl) Sub.any (Qt.load (by kernel_rfl) rfl (flat_cell _ _ _ (by intros; rfl) _ _ (by omega) (by rfl))) ?_ | refine RW.q 10 rfl rfl (by kernel_rfl) Sub.any (Qt.load (by kernel_rfl) rfl (bytes_at _ _ (by omega))) ?_
    refine RW.q 12 rfl rfl (by kernel_rfl) Sub.any (Qt.move rfl) ?_
    refine RW.one 11 (by kernel_rfl) ?_
    refine RO.eS rfl rfl (Ef.call (Bp.put_any B [] g b n 4 8 hand gl A o.page hn hn2 da o.data.length dc o.data o.mark rfl (hd.rd [])) Tryz.func13 rfl rfl rfl ?_)
    rintro _ _ ⟨rfl, rfl⟩
    try simp only [List.cons_append, List.nil_append]
    refine ⟨Sub.any, ?_⟩
    refine RW.q 13 rfl rfl (by kernel_rfl) Sub.any (Qt.eql rfl rfl) ?_
    refine RW.one 14 (by kernel_rfl) ?_
    refine RO.eS0 rfl rfl (Ef.store [_, _, _, _, _, _, _, _, _, _, _] (by kernel_rfl) rfl rfl rfl rfl (by simp) ?_)
    try simp only [splice, List.length_cons, List.length_nil, List.drop_succ_cons, List.cons_append, List.take_succ_cons, List.take_zero, List.drop_zero, List.nil_append, List.append_nil]
    refine ⟨Sub.any, ?_⟩
    refine RW.done (by rfl) ?_
    simp only [List.drop_succ_cons, List.drop_zero, List.drop_nil]
    refine LW.q rfl (Qt.assign rfl) ?_
    refine LW.done ?_
    refine T.ret ?_
    exact ⟨.inl rfl, _, _, res [_, _] rfl ⟨rvA [_, _, _, _, _, _, _, _, _, _, _] (by kernel_rfl) rfl ⟨rfl, rfl, rfl, rfl, rfl, rfl, rfl, rfl, rfl, rfl, rfl, trivial⟩, rvT rfl, trivial⟩, ⟨p, q, a, c, m, pf3, cf3, hm, by simp [outV], rfl⟩, Sub.any⟩
   ·
    refine T.seq ?_
    refine T.region ?_
    refine LW.q rfl (Qt.eql rfl rfl) ?_
    refine LW.q rfl (Qt.assign rfl) ?_
    refine LW.done ?_
    refine T.condP rfl (fun k3 => ?_) (fun k3 => ?_)
    ·
     rw [show stepPl ⟨A, hand, W, D⟩ o = ⟨A, hand, W, D⟩ by unfold stepPl; rw [if_neg k0, if_neg k1, if_neg k2, if_pos k3]] at hs'
     subst hs'
     by_cases hno : pinnedA A o.page = none
     ·
      refine T.seq ?_
      refine T.drawBl 11 none (by kernel_rfl) (Nat.le_of_ble_eq_true rfl) (by kernel_rfl) ?_
      refine RW.q 0 rfl rfl (by kernel_rfl) Sub.any (Qt.move rfl) ?_
      refine RW.q 1 rfl rfl (by kernel_rfl) Sub.any (Qt.nilCheck rfl) ?_
      refine RW.q 2 rfl rfl (by kernel_rfl) Sub.any (Qt.fieldAddr (off := 2) (by kernel_rfl) rfl) ?_
      first | refine RW.q 3 rfl rfl (by kernel_rfl) Sub.any (Qt.load (by kernel_rfl) rfl rfl) ?_ | refine RW.q 3 rfl rfl (by kernel_rfl) Sub.any (Qt.load (by kernel_rfl) rfl (map_at _ _ _ (by omega))) ?_ | refine RW.q 3 rfl rfl (by kernel_rfl) Sub.any (Qt.load (by kernel_rfl) rfl (flat_cell0 _ _ _ (by intros; rfl) _ (by omega) (by rfl))) ?_ | refine RW.q 3 rfl rfl (by kernel_rfl) Sub.any (Qt.load (by kernel_rfl) rfl (flat_cell _ _ _ (by intros; rfl) _ _ (by omega) (by rfl))) ?_ | refine RW.q 3 rfl rfl (by kernel_rfl) Sub.any (Qt.load (by kernel_rfl) rfl (bytes_at _ _ (by omega))) ?_
      refine RW.q 4 rfl rfl (by kernel_rfl) Sub.any (Qt.fieldAddr (off := 1) (by kernel_rfl) rfl) ?_
      first | refine RW.q 5 rfl rfl (by kernel_rfl) Sub.any (Qt.load (by kernel_rfl) rfl rfl) ?_ | refine RW.q 5 rfl rfl (by kernel_rfl) Sub.any (Qt.load (by kernel_rfl) rfl (map_at _ _ _ (by omega))) ?_ | refine RW.q 5 rfl rfl (by kernel_rfl) Sub.any (Qt.load (by kernel_rfl) rfl (flat_cell0 _ _ _ (by intros; rfl) _ (by omega) (by rfl))) ?_ | refine RW.q 5 rfl rfl (by kernel_rfl) Sub.any (Qt.load (by kernel_rfl) rfl (flat_cell _ _ _ (by intros; rfl) _ _ (by omega) (by rfl))) ?_ | refine RW.q 5 rfl rfl (by kernel_rfl) Sub.any (Qt.load (by kernel_rfl) rfl (bytes_at _ _ (by omega))) ?_
      refine RW.one 6 (by kernel_rfl) ?_
      refine RO.eS rfl rfl (Ef.call (Bp.bytes_no B g b n 4 8 hand gl A o.page hn hn2 hno) Tryz.func32 rfl rfl rfl ?_)
      rintro _ _ ⟨rfl, rfl⟩
      try simp only [List.cons_append, List.nil_append]
      refine ⟨Sub.any, ?_⟩
      refine RW.q 7 rfl rfl (by kernel_rfl) Sub.any (Qt.move rfl) ?_
      refine RW.q 8 rfl rfl (by kernel_rfl) Sub.any (Qt.extract rfl rfl) ?_
      refine RW.q 9 rfl rfl (by kernel_rfl) Sub.any (Qt.extract rfl rfl) ?_
      refine RW.q 10 rfl rfl (by kernel_rfl) Sub.any (Qt.assign rfl) ?_
      refine RW.done (by rfl) ?_
      simp only [List.drop_succ_cons, List.drop_zero, List.drop_nil]
      refine LW.q rfl (Qt.assign rfl) ?_
      refine LW.done ?_
      refine T.seq ?_
      refine T.region ?_
      first | refine LW.q rfl (Qt.loadAgg [_, _, _, _, _, _, _, _, _, _, _] (by kernel_rfl) rfl ⟨rfl, rfl, rfl, rfl, rfl, rfl, rfl, rfl, rfl, rfl, rfl, trivial⟩) ?_ | refine LW.q rfl (Qt.loadAgg [_, _, _, _, _, _, _, _, _, _, _] (by kernel_rfl) rfl (by exact rdl_flat _ _ _ (by intros; rfl) _ (by omega))) ?_
      refine LW.q rfl (Qt.fieldAddr (off := 1) (by kernel_rfl) rfl) ?_
      first | refine LW.q rfl (Qt.load (by kernel_rfl) rfl rfl) ?_ | refine LW.q rfl (Qt.load (by kernel_rfl) rfl (map_at _ _ _ (by omega))) ?_ | refine LW.q rfl (Qt.load (by kernel_rfl) rfl (flat_cell0 _ _ _ (by intros; rfl) _ (by omega) (by rfl))) ?_ | refine LW.q rfl (Qt.load (by kernel_rfl) rfl (flat_cell _ _ _ (by intros; rfl) _ _ (by omega) (by rfl))) ?_ | refine LW.q rfl (Qt.load (by kernel_rfl) rfl (bytes_at _ _ (by omega))) ?_
      refine LW.e rfl (Ef.call (Rp.pinned B p q a c N m W 4 8 pf n cf hand A hn hn2 o.page) Tryz.func33 rfl rfl rfl ?_)
      rintro _ _ ⟨rfl, rfl⟩
      try simp only [List.cons_append, List.nil_append]
      rw [pinI_none hno]
      refine LW.q rfl (Qt.assign rfl) ?_
      refine LW.done ?_
      refine T.seq ?_
      refine T.seq ?_
      refine T.region ?_
      refine LW.q rfl (Qt.move rfl) ?_
      refine LW.q rfl (Qt.lss rfl rfl) ?_
      refine LW.done ?_
      first | refine T.condT rfl ?_ | refine T.condPT rfl (by omega) ?_ | refine T.condBT rfl (by omega) ?_
      refine T.seq ?_
      refine T.region ?_
      first | refine LW.q rfl (Qt.loadAgg [_, _, _, _, _, _, _, _, _, _, _] (by kernel_rfl) rfl ⟨rfl, rfl, rfl, rfl, rfl, rfl, rfl, rfl, rfl, rfl, rfl, trivial⟩) ?_ | refine LW.q rfl (Qt.loadAgg [_, _, _, _, _, _, _, _, _, _, _] (by kernel_rfl) rfl (by exact rdl_flat _ _ _ (by intros; rfl) _ (by omega))) ?_
      refine LW.q rfl (Qt.move rfl) ?_
      refine LW.q rfl (Qt.eql rfl rfl) ?_
      refine LW.q rfl (Qt.move rfl) ?_
      first | refine LW.gT (t := 110) rfl rfl ?_ | refine LW.gT (t := 110) rfl (decide_eq_true (by omega)) ?_ | refine LW.gT (t := 110) rfl (by omega) ?_
      refine LW.q rfl (Qt.move rfl) ?_
      refine LW.q rfl (Qt.len (e := 5) (sz := 1) (by kernel_rfl) rfl) ?_
      refine LW.q rfl (Qt.eql rfl rfl) ?_
      refine LW.q rfl (Qt.pick rfl rfl) ?_
      refine LW.e0 rfl (Ef.store [_, _, _, _, _, _, _, _, _, _, _] (by kernel_rfl) rfl rfl rfl rfl (by simp) ?_)
      try simp only [splice, List.length_cons, List.length_nil, List.drop_succ_cons, List.cons_append, List.take_succ_cons, List.take_zero, List.drop_zero, List.nil_append, List.append_nil]
      refine LW.q rfl (Qt.assign rfl) ?_
      refine LW.done ?_
      refine T.ret ?_
      exact ⟨.inl rfl, _, _, res [_, _] rfl ⟨rvA [_, _, _, _, _, _, _, _, _, _, _] (by kernel_rfl) rfl ⟨rfl, rfl, rfl, rfl, rfl, rfl, rfl, rfl, rfl, rfl, rfl, trivial⟩, rvT rfl, trivial⟩, ⟨p, q, a, c, m, pf, cf, hm, by simp [outV], rfl⟩, Sub.any⟩
     ·
      obtain ⟨⟨i, x⟩, hi⟩ := Option.ne_none_iff_exists'.1 hno
      obtain ⟨h1, hx, hp⟩ := pinnedA_some hi
      obtain ⟨h0, x2, hx2, hpg, _⟩ := findA_some h1
      obtain rfl : x2 = x := by rw [hx] at hx2; exact (Option.some.inj hx2).symm
      have hxo := fr_ok h.F hx (by omega)
      have hil := (List.getElem?_eq_some_iff.1 hx).1
      refine T.seq ?_
      refine T.drawBl 11 none (by kernel_rfl) (Nat.le_of_ble_eq_true rfl) (by kernel_rfl) ?_
      refine RW.q 0 rfl rfl (by kernel_rfl) Sub.any (Qt.move rfl) ?_
      refine RW.q 1 rfl rfl (by kernel_rfl) Sub.any (Qt.nilCheck rfl) ?_
      refine RW.q 2 rfl rfl (by kernel_rfl) Sub.any (Qt.fieldAddr (off := 2) (by kernel_rfl) rfl) ?_
      first | refine RW.q 3 rfl rfl (by kernel_rfl) Sub.any (Qt.load (by kernel_rfl) rfl rfl) ?_ | refine RW.q 3 rfl rfl (by kernel_rfl) Sub.any (Qt.load (by kernel_rfl) rfl (map_at _ _ _ (by omega))) ?_ | refine RW.q 3 rfl rfl (by kernel_rfl) Sub.any (Qt.load (by kernel_rfl) rfl (flat_cell0 _ _ _ (by intros; rfl) _ (by omega) (by rfl))) ?_ | refine RW.q 3 rfl rfl (by kernel_rfl) Sub.any (Qt.load (by kernel_rfl) rfl (flat_cell _ _ _ (by intros; rfl) _ _ (by omega) (by rfl))) ?_ | refine RW.q 3 rfl rfl (by kernel_rfl) Sub.any (Qt.load (by kernel_rfl) rfl (bytes_at _ _ (by omega))) ?_
      refine RW.q 4 rfl rfl (by kernel_rfl) Sub.any (Qt.fieldAddr (off := 1) (by kernel_rfl) rfl) ?_
      first | refine RW.q 5 rfl rfl (by kernel_rfl) Sub.any (Qt.load (by kernel_rfl) rfl rfl) ?_ | refine RW.q 5 rfl rfl (by kernel_rfl) Sub.any (Qt.load (by kernel_rfl) rfl (map_at _ _ _ (by omega))) ?_ | refine RW.q 5 rfl rfl (by kernel_rfl) Sub.any (Qt.load (by kernel_rfl) rfl (flat_cell0 _ _ _ (by intros; rfl) _ (by omega) (by rfl))) ?_ | refine RW.q 5 rfl rfl (by kernel_rfl) Sub.any (Qt.load (by kernel_rfl) rfl (flat_cell _ _ _ (by intros; rfl) _ _ (by omega) (by rfl))) ?_ | refine RW.q 5 rfl rfl (by kernel_rfl) Sub.any (Qt.load (by kernel_rfl) rfl (bytes_at _ _ (by omega))) ?_
      refine RW.one 6 (by kernel_rfl) ?_
      refine RO.eS rfl rfl (Ef.call (Bp.bytes B g b n 4 8 hand gl A o.page hn hn2 i x2 hi 256 hxo.2.2.1 (by omega)) Tryz.func32 rfl rfl rfl ?_)
      rintro _ _ ⟨p5, c5, rfl, hp5, rfl⟩
      try simp only [List.cons_append, List.nil_append]
      refine ⟨Sub.any, ?_⟩
      refine RW.q 7 rfl rfl (by kernel_rfl) Sub.any (Qt.move rfl) ?_
      refine RW.q 8 rfl rfl (by kernel_rfl) Sub.any (Qt.extract rfl rfl) ?_
      refine RW.q 9 rfl rfl (by kernel_rfl) Sub.any (Qt.extract rfl rfl) ?_
      refine RW.q 10 rfl rfl (by kernel_rfl) Sub.any (Qt.assign rfl) ?_
      refine RW.done (by rfl) ?_
      simp only [List.drop_succ_cons, List.drop_zero, List.drop_nil]
      refine LW.q rfl (Qt.assign rfl) ?_
      refine LW.done ?_
      refine T.seq ?_
      refine T.region ?_
      first | refine LW.q rfl (Qt.loadAgg [_, _, _, _, _, _, _, _, _, _, _] (by kernel_rfl) rfl ⟨rfl, rfl, rfl, rfl, rfl, rfl, rfl, rfl, rfl, rfl, rfl, trivial⟩) ?_ | refine LW.q rfl (Qt.loadAgg [_, _, _, _, _, _, _, _, _, _, _] (by kernel_rfl) rfl (by exact rdl_flat _ _ _ (by intros; rfl) _ (by omega))) ?_
      refine LW.q rfl (Qt.fieldAddr (off := 1) (by kernel_rfl) rfl) ?_
      first | refine LW.q rfl (Qt.load (by kernel_rfl) rfl rfl) ?_ | refine LW.q rfl (Qt.load (by kernel_rfl) rfl (map_at _ _ _ (by omega))) ?_ | refine LW.q rfl (Qt.load (by kernel_rfl) rfl (flat_cell0 _ _ _ (by intros; rfl) _ (by omega) (by rfl))) ?_ | refine LW.q rfl (Qt.load (by kernel_rfl) rfl (flat_cell _ _ _ (by intros; rfl) _ _ (by omega) (by rfl))) ?_ | refine LW.q rfl (Qt.load (by kernel_rfl) rfl (bytes_at _ _ (by omega))) ?_
      refine LW.e rfl (Ef.call (Rp.pinned B p q a c N m W 4 8 pf n cf hand A hn hn2 o.page) Tryz.func33 rfl rfl rfl ?_)
      rintro _ _ ⟨rfl, rfl⟩
      try simp only [List.cons_append, List.nil_append]
      rw [pinI_some hi]
      refine LW.own (fun w ho => ?_)
      obtain ⟨gf, rfl⟩ : ∃ g, pf = some ⟨g, 0, none⟩ := (ho.slice_at (p := pf) (m := n) (c := cf)).2.1 (by omega)
      clear ho
      refine LW.q rfl (Qt.assign rfl) ?_
      refine LW.done ?_
      refine T.seq ?_
      refine T.seq ?_
      refine T.region ?_
      refine LW.q rfl (Qt.move rfl) ?_
      refine LW.q rfl (Qt.lss rfl rfl) ?_
      refine LW.done ?_
      first | refine T.condF rfl ?_ | refine T.condPF rfl (by omega) ?_ | refine T.condBF rfl (by omega) ?_
      refine T.skip ?_
      refine T.seq ?_
      refine T.draw 15 ([raR (some ⟨gf, 0, none⟩) n cf A, rB (.slice p5 256 c5) 256 x2.b, blk g4 (rqC p q a c N m W 4 8 (some ⟨gf, 0, none⟩) n cf hand) 41]) (by kernel_rfl) (Nat.le_of_ble_eq_true rfl) (by kernel_rfl) ?_
      first | refine RW.q 0 rfl rfl (by kernel_rfl) Sub.any (Qt.loadAgg [_, _, _, _, _, _, _, _, _, _, _] (by kernel_rfl) rfl ⟨rfl, rfl, rfl, rfl, rfl, rfl, rfl, rfl, rfl, rfl, rfl, trivial⟩) ?_ | refine RW.q 0 rfl rfl (by kernel_rfl) Sub.any (Qt.loadAgg [_, _, _, _, _, _, _, _, _, _, _] (by kernel_rfl) rfl (by exact rdl_flat _ _ _ (by intros; rfl) _ (by omega))) ?_
      refine RW.q 1 rfl rfl (by kernel_rfl) Sub.any (Qt.move rfl) ?_
      refine RW.q 2 rfl rfl (by kernel_rfl) Sub.any (Qt.eql rfl rfl) ?_
      refine RW.q 3 rfl rfl (by kernel_rfl) Sub.any (Qt.move rfl) ?_
      first | refine RW.gT (t := 118) rfl rfl ?_ | refine RW.gT (t := 118) rfl (decide_eq_true (by omega)) ?_ | refine RW.gT (t := 118) rfl (by omega) ?_
      refine RW.q 4 rfl rfl (by kernel_rfl) Sub.any (Qt.move rfl) ?_
      refine RW.q 5 rfl rfl (by kernel_rfl) Sub.any (Qt.str x2.b (by kernel_rfl) (by kernel_rfl) rfl (fun _ ho => ho.reads_row hxo.2.2.1)) ?_
      refine RW.q 6 rfl rfl (by kernel_rfl) Sub.any (Qt.fieldAddr (off := 9) (by kernel_rfl) rfl) ?_
      first | refine RW.q 7 rfl rfl (by kernel_rfl) Sub.any (Qt.load (by kernel_rfl) rfl rfl) ?_ | refine RW.q 7 rfl rfl (by kernel_rfl) Sub.any (Qt.load (by kernel_rfl) rfl (map_at _ _ _ (by omega))) ?_ | refine RW.q 7 rfl rfl (by kernel_rfl) Sub.any (Qt.load (by kernel_rfl) rfl (flat_cell0 _ _ _ (by intros; rfl) _ (by omega) (by rfl))) ?_ | refine RW.q 7 rfl rfl (by kernel_rfl) Sub.any (Qt.load (by kernel_rfl) rfl (flat_cell _ _ _ (by intros; rfl) _ _ (by omega) (by rfl))) ?_ | refine RW.q 7 rfl rfl (by kernel_rfl) Sub.any (Qt.load (by kernel_rfl) rfl (bytes_at _ _ (by omega))) ?_
      refine RW.q 8 rfl rfl (by kernel_rfl) Sub.any (Qt.move rfl) ?_
      refine RW.q 9 rfl rfl (by kernel_rfl) Sub.any (Qt.index _ (e := 90) (sz := 6) (by kernel_rfl) rfl rfl rfl (by omega)) ?_
      refine RW.q 10 rfl rfl (by kernel_rfl) Sub.any (Qt.fieldAddr (off := 1) (by kernel_rfl) rfl) ?_
      refine RW.q 11 rfl rfl (by kernel_rfl) Sub.any (Qt.load (v := strW x2.b) (by kernel_rfl) rfl (ra_at hx 1 (by omega))) ?_
      refine RW.q 12 rfl rfl (by kernel_rfl) Sub.any (Qt.eqlS rfl rfl) ?_
      refine RW.q 13 rfl rfl (by kernel_rfl) Sub.any (Qt.pick rfl rfl) ?_
      refine RW.one 14 (by kernel_rfl) ?_
      refine RO.eS0 rfl rfl (Ef.store [_, _, _, _, _, _, _, _, _, _, _] (by kernel_rfl) rfl rfl rfl rfl (by simp) ?_)
      try simp only [splice, List.length_cons, List.length_nil, List.drop_succ_cons, List.cons_append, List.take_succ_cons, List.take_zero, List.drop_zero, List.nil_append, List.append_nil]
      refine ⟨Sub.any, ?_⟩
      refine RW.done (by rfl) ?_
      simp only [List.drop_succ_cons, List.drop_zero, List.drop_nil]
      refine LW.q rfl (Qt.assign rfl) ?_
      refine LW.done ?_
      refine T.ret ?_
      exact ⟨.inl rfl, _, _, res [_, _] rfl ⟨rvA [_, _, _, _, _, _, _, _, _, _, _] (by kernel_rfl) rfl ⟨rfl, rfl, rfl, rfl, rfl, rfl, rfl, rfl, rfl, rfl, rfl, trivial⟩, rvT rfl, trivial⟩, ⟨p, q, a, c, m, some ⟨gf, 0, none⟩, cf, hm, by simp [outV], rfl⟩, Sub.any⟩
    ·
     refine T.seq ?_
     refine T.region ?_
     refine LW.q rfl (Qt.eql rfl rfl) ?_
     refine LW.q rfl (Qt.assign rfl) ?_
     refine LW.done ?_
     refine T.condP rfl (fun k4 => ?_) (fun k4 => ?_)
     ·
      rw [show stepPl ⟨A, hand, W, D⟩ o = flushP 4 ⟨A, hand, W, D⟩ by unfold stepPl; rw [if_neg k0, if_neg k1, if_neg k2, if_neg k3, if_pos k4]] at hs'
      subst hs'
      refine T.seq ?_
      refine T.region ?_
      refine LW.q rfl (Qt.move rfl) ?_
      refine LW.q rfl (Qt.nilCheck rfl) ?_
      refine LW.q rfl (Qt.fieldAddr (off := 2) (by kernel_rfl) rfl) ?_
      first | refine LW.q rfl (Qt.load (by kernel_rfl) rfl rfl) ?_ | refine LW.q rfl (Qt.load (by kernel_rfl) rfl (map_at _ _ _ (by omega))) ?_ | refine LW.q rfl (Qt.load (by kernel_rfl) rfl (flat_cell0 _ _ _ (by intros; rfl) _ (by omega) (by rfl))) ?_ | refine LW.q rfl (Qt.load (by kernel_rfl) rfl (flat_cell _ _ _ (by intros; rfl) _ _ (by omega) (by rfl))) ?_ | refine LW.q rfl (Qt.load (by kernel_rfl) rfl (bytes_at _ _ (by omega))) ?_
      refine LW.e rfl (Ef.call (Bp.flush B g b n 4 8 hand gl A W D h.F h.dp (h.w (by omega)) h.ok (by omega)) Tryz.func34 rfl rfl rfl ?_)
      rintro _ _ ⟨rfl, rfl⟩
      try simp only [List.cons_append, List.nil_append]
      refine LW.done ?_
      refine T.seq ?_
      refine T.region ?_
      first | refine LW.q rfl (Qt.loadAgg [_, _, _, _, _, _, _, _, _, _, _] (by kernel_rfl) rfl ⟨rfl, rfl, rfl, rfl, rfl, rfl, rfl, rfl, rfl, rfl, rfl, trivial⟩) ?_ | refine LW.q rfl (Qt.loadAgg [_, _, _, _, _, _, _, _, _, _, _] (by kernel_rfl) rfl (by exact rdl_flat _ _ _ (by intros; rfl) _ (by omega))) ?_
      refine LW.e rfl (Ef.call (Rp.flush B p q a c N m W D 4 8 pf n cf hand A h.F h.dp hN hm (h.w (by omega)) h.ok (by omega)) Tryz.func35 rfl rfl rfl ?_)
      rintro _ _ ⟨p3, a3, pf3, cf3, W3, D3, rfl, e1, e2, rfl⟩
      try simp only [List.cons_append, List.nil_append]
      subst e1
      subst e2
      refine LW.e0 rfl (Ef.store [_, _, _, _, _, _, _, _, _, _, _] (by kernel_rfl) rfl rfl rfl rfl (by simp) ?_)
      try simp only [splice, List.length_cons, List.length_nil, List.drop_succ_cons, List.cons_append, List.take_succ_cons, List.take_zero, List.drop_zero, List.nil_append, List.append_nil]
      refine LW.q rfl (Qt.assign rfl) ?_
      refine LW.done ?_
      have hsyp : ∀ D : DD, D.sync.pend = [] := fun _ => rfl
      refine T.ret ?_
      exact ⟨.inl rfl, _, _, res [_, _] rfl ⟨rvA [_, _, _, _, _, _, _, _, _, _, _] (by kernel_rfl) rfl ⟨rfl, rfl, rfl, rfl, rfl, rfl, rfl, rfl, rfl, rfl, rfl, trivial⟩, rvT rfl, trivial⟩, ⟨p3, none, a3, 0, 0, pf3, cf3, rfl, rfl, rfl⟩, (by simp only [flushP, hsyp]; exact Sub.any)⟩
     ·
      refine T.seq ?_
      refine T.region ?_
      refine LW.q rfl (Qt.eql rfl rfl) ?_
      refine LW.q rfl (Qt.assign rfl) ?_
      refine LW.done ?_
      refine T.condP rfl (fun k5 => ?_) (fun k5 => ?_)
      ·
       rw [show stepPl ⟨A, hand, W, D⟩ o = ⟨A, hand, (addW W o.data).1, D⟩ by unfold stepPl; rw [if_neg k0, if_neg k1, if_neg k2, if_neg k3, if_neg k4, if_pos k5]] at hs'
       subst hs'
       refine T.seq ?_
       refine T.drawBl 12 none (by kernel_rfl) (Nat.le_of_ble_eq_true rfl) (by kernel_rfl) ?_
       refine RW.q 0 rfl rfl (by kernel_rfl) Sub.any (Qt.move rfl) ?_
       refine RW.q 1 rfl rfl (by kernel_rfl) Sub.any (Qt.nilCheck rfl) ?_
       refine RW.q 2 rfl rfl (by kernel_rfl) Sub.any (Qt.fieldAddr (off := 1) (by kernel_rfl) rfl) ?_
       first | refine RW.q 3 rfl rfl (by kernel_rfl) Sub.any (Qt.load (by kernel_rfl) rfl rfl) ?_ | refine RW.q 3 rfl rfl (by kernel_rfl) Sub.any (Qt.load (by kernel_rfl) rfl (map_at _ _ _ (by omega))) ?_ | refine RW.q 3 rfl rfl (by kernel_rfl) Sub.any (Qt.load (by kernel_rfl) rfl (flat_cell0 _ _ _ (by intros; rfl) _ (by omega) (by rfl))) ?_ | refine RW.q 3 rfl rfl (by kernel_rfl) Sub.any (Qt.load (by kernel_rfl) rfl (flat_cell _ _ _ (by intros; rfl) _ _ (by omega) (by rfl))) ?_ | refine RW.q 3 rfl rfl (by kernel_rfl) Sub.any (Qt.load (by kernel_rfl) rfl (bytes_at _ _ (by omega))) ?_
       refine RW.q 4 rfl rfl (by kernel_rfl) Sub.any (Qt.fieldAddr (off := 2) (by kernel_rfl) rfl) ?_
       first | refine RW.q 5 rfl rfl (by kernel_rfl) Sub.any (Qt.load (by kernel_rfl) rfl rfl) ?_ | refine RW.q 5 rfl rfl (by kernel_rfl) Sub.any (Qt.load (by kernel_rfl) rfl (map_at _ _ _ (by omega))) ?_ | refine RW.q 5 rfl rfl (by kernel_rfl) Sub.any (Qt.load (by kernel_rfl) rfl (flat_cell0 _ _ _ (by intros; rfl) _ (by omega) (by rfl))) ?_ | refine RW.q 5 rfl rfl (by kernel_rfl) Sub.any (Qt.load (by kernel_rfl) rfl (flat_cell _ _ _ (by intros; rfl) _ _ (by omega) (by rfl))) ?_ | refine RW.q 5 rfl rfl (by kernel_rfl) Sub.any (Qt.load (by kernel_rfl) rfl (bytes_at _ _ (by omega))) ?_
       refine RW.one 6 (by kernel_rfl) ?_
       refine RO.eS rfl rfl (Ef.one [_] (e := 43) (sz := 1) (by kernel_rfl) ⟨.slice none 0 0, by kernel_rfl, rfl⟩ rfl rfl rfl (by omega) (by omega) ?_)
       intro g147
       refine ⟨Sub.any, ?_⟩
       refine RW.one 7 (by kernel_rfl) ?_
       refine RO.eS rfl rfl (Ef.call (Wl.add B [blk g147 [.slice da o.data.length dc] 43] gl b W (some ⟨g147, 0, none⟩) 1 [o.data] 1 rfl (PartsV.one (hd.rd _)) (by simp) (by simp) o.data (by simp) (by omega) (by omega) hwst) Tryz.func36 rfl rfl rfl ?_)
       rintro _ _ ⟨rfl, rfl⟩
       try simp only [List.cons_append, List.nil_append]
       refine ⟨Sub.any, ?_⟩
       refine RW.q 8 rfl rfl (by kernel_rfl) Sub.any (Qt.move rfl) ?_
       refine RW.q 9 rfl rfl (by kernel_rfl) Sub.any (Qt.extract rfl rfl) ?_
       refine RW.q 10 rfl rfl (by kernel_rfl) Sub.any (Qt.extract rfl rfl) ?_
       refine RW.q 11 rfl rfl (by kernel_rfl) Sub.any (Qt.assign rfl) ?_
       refine RW.done (by rfl) ?_
       simp only [List.drop_succ_cons, List.drop_zero, List.drop_nil]
       refine LW.q rfl (Qt.assign rfl) ?_
       refine LW.done ?_
       refine T.seq ?_
       refine T.region ?_
       refine LW.q rfl (Qt.fieldAddr (off := 2) (by kernel_rfl) rfl) ?_
       first | refine LW.q rfl (Qt.loadAgg [_, _, _, _, _] (by kernel_rfl) rfl ⟨rfl, rfl, rfl, rfl, rfl, trivial⟩) ?_ | refine LW.q rfl (Qt.loadAgg [_, _, _, _, _] (by kernel_rfl) rfl (by exact rdl_flat _ _ _ (by intros; rfl) _ (by omega))) ?_
       refine LW.q rfl (Qt.fieldAddr (off := 2) (by kernel_rfl) rfl) ?_
       first | refine LW.q rfl (Qt.load (by kernel_rfl) rfl rfl) ?_ | refine LW.q rfl (Qt.load (by kernel_rfl) rfl (map_at _ _ _ (by omega))) ?_ | refine LW.q rfl (Qt.load (by kernel_rfl) rfl (flat_cell0 _ _ _ (by intros; rfl) _ (by omega) (by rfl))) ?_ | refine LW.q rfl (Qt.load (by kernel_rfl) rfl (flat_cell _ _ _ (by intros; rfl) _ _ (by omega) (by rfl))) ?_ | refine LW.q rfl (Qt.load (by kernel_rfl) rfl (bytes_at _ _ (by omega))) ?_
       refine LW.q rfl (Qt.str o.data (by kernel_rfl) (by kernel_rfl) rfl (hd.rd _).str) ?_
       refine LW.e rfl (Ef.call (Rl.add B W o.data (by omega) hwst (by omega)) Tryz.func25 rfl rfl rfl ?_)
       rintro _ _ ⟨rfl, rfl⟩
       try simp only [List.cons_append, List.nil_append]
       refine LW.q rfl (Qt.move rfl) ?_
       refine LW.q rfl (Qt.extract rfl rfl) ?_
       refine LW.q rfl (Qt.extract rfl rfl) ?_
       refine LW.e rfl (Ef.alloc [.string .empty, .int .u32 0, .int .i64 0, .int .i64 0, .int .i64 0] (by unfold zeroB; kernel_rfl) ?_)
       intro g19
       refine LW.e0 rfl (Ef.store [_, _, _, _, _] (by kernel_rfl) rfl rfl rfl rfl (by simp) ?_)
       try simp only [splice, List.length_cons, List.length_nil, List.drop_succ_cons, List.cons_append, List.take_succ_cons, List.take_zero, List.drop_zero, List.nil_append, List.append_nil]
       refine LW.q rfl (Qt.assign rfl) ?_
       refine LW.done ?_
       refine T.seq ?_
       refine T.region ?_
       first | refine LW.q rfl (Qt.loadAgg [_, _, _, _, _] (by kernel_rfl) rfl ⟨rfl, rfl, rfl, rfl, rfl, trivial⟩) ?_ | refine LW.q rfl (Qt.loadAgg [_, _, _, _, _] (by kernel_rfl) rfl (by exact rdl_flat _ _ _ (by intros; rfl) _ (by omega))) ?_
       refine LW.q rfl (Qt.fieldAddr (off := 2) (by kernel_rfl) rfl) ?_
       refine LW.e0 rfl (Ef.store [_, _, _, _, _] (by kernel_rfl) rfl rfl rfl rfl (by simp) ?_)
       try simp only [splice, List.length_cons, List.length_nil, List.drop_succ_cons, List.cons_append, List.take_succ_cons, List.take_zero, List.drop_zero, List.nil_append, List.append_nil]
       refine LW.done ?_
       refine T.seq ?_
       refine T.region ?_
       first | refine LW.q rfl (Qt.loadAgg [_, _, _, _, _, _, _, _, _, _, _] (by kernel_rfl) rfl ⟨rfl, rfl, rfl, rfl, rfl, rfl, rfl, rfl, rfl, rfl, rfl, trivial⟩) ?_ | refine LW.q rfl (Qt.loadAgg [_, _, _, _, _, _, _, _, _, _, _] (by kernel_rfl) rfl (by exact rdl_flat _ _ _ (by intros; rfl) _ (by omega))) ?_
       refine LW.q rfl (Qt.move rfl) ?_
       refine LW.q rfl (Qt.move rfl) ?_
       refine LW.q rfl (Qt.eql rfl rfl) ?_
       refine LW.e0 rfl (Ef.store [_, _, _, _, _, _, _, _, _, _, _] (by kernel_rfl) rfl rfl rfl rfl (by simp) ?_)
       try simp only [splice, List.length_cons, List.length_nil, List.drop_succ_cons, List.cons_append, List.take_succ_cons, List.take_zero, List.drop_zero, List.nil_append, List.append_nil]
       refine LW.q rfl (Qt.assign rfl) ?_
       refine LW.done ?_
       refine T.ret ?_
       exact ⟨.inl rfl, _, _, res [_, _] rfl ⟨rvA [_, _, _, _, _, _, _, _, _, _, _] (by kernel_rfl) rfl ⟨rfl, rfl, rfl, rfl, rfl, rfl, rfl, rfl, rfl, rfl, rfl, trivial⟩, rvT rfl, trivial⟩, ⟨p, q, a, c, m, pf, cf, hm, by simp [outV], rfl⟩, Sub.any⟩
      ·
       rw [show stepPl ⟨A, hand, W, D⟩ o = ⟨A, hand, W, D⟩ by unfold stepPl; rw [if_neg k0, if_neg k1, if_neg k2, if_neg k3, if_neg k4, if_neg k5]] at hs'
       subst hs'
       refine T.skip ?_
       refine T.seq ?_
       refine T.region ?_
       first | refine LW.q rfl (Qt.loadAgg [_, _, _, _, _, _, _, _, _, _, _] (by kernel_rfl) rfl ⟨rfl, rfl, rfl, rfl, rfl, rfl, rfl, rfl, rfl, rfl, rfl, trivial⟩) ?_ | refine LW.q rfl (Qt.loadAgg [_, _, _, _, _, _, _, _, _, _, _] (by kernel_rfl) rfl (by exact rdl_flat _ _ _ (by intros; rfl) _ (by omega))) ?_
       refine LW.e0 rfl (Ef.store [_, _, _, _, _, _, _, _, _, _, _] (by kernel_rfl) rfl rfl rfl rfl (by simp) ?_)
       try simp only [splice, List.length_cons, List.length_nil, List.drop_succ_cons, List.cons_append, List.take_succ_cons, List.take_zero, List.drop_zero, List.nil_append, List.append_nil]
       refine LW.q rfl (Qt.assign rfl) ?_
       refine LW.done ?_
       refine T.ret ?_
       exact ⟨.inl rfl, _, _, res [_, _] rfl ⟨rvA [_, _, _, _, _, _, _, _, _, _, _] (by kernel_rfl) rfl ⟨rfl, rfl, rfl, rfl, rfl, rfl, rfl, rfl, rfl, rfl, rfl, trivial⟩, rvT rfl, trivial⟩, ⟨p, q, a, c, m, pf, cf, hm, rfl, rfl⟩, Sub.any⟩
end Go.Proofs.YtegohgaccmkigaaGreatDoor

/- The statement BufferPlays. Conditions: that what is handed in can be read; sizes. -/
set_option linter.unusedSimpArgs false
set_option linter.unusedVariables false
namespace Go.Proofs.YtegohgaccmkigaaGreatDoor
open Go.RowKit

/-- A slice of calls that lies in memory that is only read. -/
def RoLO (B : Base) (v : Value) (l : List OpB) : Prop := ∃ a cap, v = .slice a l.length cap ∧ (l = [] ∨ ∃ b o C, a = some ⟨b, o, none⟩ ∧ ROc B b C ∧
  ∀ i (hi : i < l.length), ∃ da dc, rdl C (o + i * 4) [.int .i64 l[i].kind, .int .i64 l[i].page, .slice da l[i].data.length dc, .int .i64 l[i].mark] ∧ RoS B (.slice da l[i].data.length dc) (bytesV l[i].data))
abbrev blankD : DD := ⟨List.replicate 12 zs, []⟩
theorem blank_of {D : DD} (hl : D.secs.length = 12) (hp : D.pend = []) (hz : ∀ x, 0 ≤ x → x < 12 → D.read x = List.replicate 256 0) : D = blankD :=
  DD.ext_read hp rfl (by rw [hl]; simp) fun n hn => by rw [hz n (Nat.zero_le _) (by omega)]; exact (DD.new_read (by omega)).symm
theorem blank_open {k : Nat} {s : UInt32} {R : List (Nat × List UInt8)} (h : scanW (allD blankD 0 4) (4 * 256 + 1) 0 0 = (k, s, R)) : k = 0 ∧ s = 0 ∧ R = [] ∧ (wipeD ⟨0, 4, (allD blankD 0 4).take 0, 0, 0⟩ (allD blankD 0 4) blankD (0 / 256) (4 - 0 / 256)).sync = blankD := by
  have hs : Secs blankD 0 4 [] := Secs.new (by omega)
  have hal := all_text hs (by simp)
  have h2 := scan_text [] (4 * 256) (4 * 256 + 1) (by simp) (by simp)
  have e1 : allD blankD 0 4 = logB 0 0 [] ++ List.replicate (4 * 256) 0 := hal
  rw [e1, h2] at h
  simp only [Prod.mk.injEq] at h
  obtain ⟨h1, h3, h4⟩ := h
  refine ⟨h1.symm, h3.symm, h4.symm, ?_⟩
  have h5 := wipe_clean (D := blankD) (first := 0) (count := 4) (s := 0) (st := []) (by simp)
  rw [e1]
  rw [show wipeD ⟨0, 4, List.take 0 (logB 0 0 [] ++ List.replicate (4 * 256) 0), 0, 0⟩ (logB 0 0 [] ++ List.replicate (4 * 256) 0) blankD (0 / 256) (4 - 0 / 256) = blankD from h5]
  exact DD.sync_nil rfl

theorem PInv.start (n : Nat) (h1 : 1 ≤ n) (h2 : n ≤ 4096) : PInv 4 8 n 0 ⟨List.replicate n fa1, 0, mkW 0 4 [] 0, blankD⟩ := by
  have hx : ∀ x ∈ List.replicate n fa1, x = fa1 := fun x hx => (List.mem_replicate.1 hx).2
  refine ⟨FOk.new 8 n h1 h2, fun x h hd => ?_, fun x h => ?_, ?_, ?_, ?_, ?_, Nat.le_refl _, DD.new_ok 12 (by omega) (by omega), ?_⟩
  · rw [hx x h] at hd; cases hd
  · rw [hx x h]; decide
  · show 0 < n; omega
  · show 0 + 4 ≤ (List.replicate 12 zs).length; simp
  · simp [mkW, logB]
  · simp [mkW]
  · show 4 + 8 ≤ (List.replicate 12 zs).length; simp
theorem give_len {first : Nat} {W : Wl} {D : DD} (h : WOk W D) (ho : D.Ok) (x : Fa) : (giveP first W D x).2.secs.length = D.secs.length := by
  have := (h.force ho x.mark h.room).2.2.1
  unfold giveP
  split
  · exact this
  · rfl
theorem step_len {n K : Nat} {s : Pl} (h : PInv 4 8 n K s) (hK : K < 2 ^ 31) (o : OpB) : (stepPl s o).D.secs.length = s.D.secs.length := by
  unfold stepPl
  split
  · have hc := pin_cases (first := 4) (count := 8) (page := o.page) (s := s) (by rw [h.F.len]; exact h.hand)
    generalize pinP 4 8 s o.page = res at hc ⊢
    cases hc with
    | clock i h' A' x' hr hf hx ha hc hx' hup => exact give_len (h.w hK) h.ok x'
    | _ => rfl
  · split
    · rfl
    · split
      · rfl
      · split
        · rfl
        · split
          · obtain ⟨f1, f2, f3, f4, f5, f6, f7⟩ := (h.w hK).force h.ok (dirtyMark s.A) (h.w hK).room
            have hsec := h.sec
            have hL : ∀ p ∈ dirtyL 4 s.A, p.1 < (forceP s.W s.D (dirtyMark s.A)).2.secs.length ∧ p.2.length = 256 := fun p hp => by
              obtain ⟨i, x, hx, hd, rfl⟩ := dirty_mem.1 hp
              have := fr_ok h.F hx (h.dp x (List.mem_of_getElem? hx) hd)
              exact ⟨by rw [f3]; dsimp only; omega, this.2.2.1⟩
            obtain ⟨w1, w2, w3⟩ := writes_ok f2 hL
            show (writesP _ _).sync.secs.length = _
            rw [DD.sync_len w1, w2, f3]
          · split <;> rfl

set_option maxHeartbeats 16000000 in
set_option maxRecDepth 100000 in
theorem Rp.plays (B : Base) (frames : Int) (sv : Value) (sc : List OpB) (hsv : RoLO B sv sc) (hsl : sc.length ≤ 1048576) (hop : ∀ x ∈ sc, x.data.length ≤ 1048576 ∧ -(2 ^ 63) ≤ x.mark ∧ x.mark < 2 ^ 63) :
  Fn Tryz.prog B 3 #[.int .i64 frames, sv] [] (fun v l => v = .bool true ∧ l = []) := by
 obtain ⟨sa, scap, rfl, hsc⟩ := hsv
 refine Fn.enter2 65 Tryz.func3 rfl rfl (Nat.le_of_ble_eq_true rfl) (fun F => ?_)
 try simp only [List.cons_append, List.nil_append]
 refine T.seq ?_
 refine T.region ?_
 refine LW.q rfl (Qt.assign rfl) ?_
 refine LW.done ?_
 refine T.seq ?_
 refine T.seq ?_
 refine T.region ?_
 refine LW.e rfl (Ef.call (Bf.awake B) Tryz.func4 rfl rfl rfl ?_)
 rintro _ _ ⟨rfl, rfl⟩
 try simp only [List.cons_append, List.nil_append]
 first | refine LW.q rfl (Qt.notP rfl) ?_ | refine LW.q rfl (Qt.notB rfl) ?_
 refine LW.done ?_
 first | refine T.condF rfl ?_ | refine T.condPF rfl (by omega) ?_ | refine T.condBF rfl (by omega) ?_
 by_cases hr : frames < 1 ∨ 4096 < frames
 ·
  refine T.skip ?_
  refine T.seq ?_
  refine T.region ?_
  refine LW.q rfl (Qt.move rfl) ?_
  refine LW.e rfl (Ef.call (Bp.laid_no B frames hr) Tryz.func5 rfl rfl rfl ?_)
  rintro _ _ ⟨rfl, rfl⟩
  try simp only [List.cons_append, List.nil_append]
  refine LW.q rfl (Qt.assign rfl) ?_
  refine LW.done ?_
  refine T.seq ?_
  refine T.seq ?_
  refine T.region ?_
  refine LW.q rfl (Qt.move rfl) ?_
  first | refine LW.q rfl (Qt.eqlNil (by kernel_rfl) rfl rfl) ?_ | refine LW.q rfl (Qt.eqlNN (by kernel_rfl) rfl rfl) ?_
  refine LW.done ?_
  first | refine T.condT rfl ?_ | refine T.condPT rfl (by omega) ?_ | refine T.condBT rfl (by omega) ?_
  refine T.seq ?_
  refine T.region ?_
  refine LW.q rfl (Qt.move rfl) ?_
  refine LW.e rfl (Ef.call (Rp.wrong_yes B 12 4 8 frames (by omega) (by omega) (by unfold wrongP; omega)) Tryz.func6 rfl rfl rfl ?_)
  rintro _ _ ⟨rfl, rfl⟩
  try simp only [List.cons_append, List.nil_append]
  refine LW.q rfl (Qt.neq rfl rfl) ?_
  refine LW.q rfl (Qt.assign rfl) ?_
  refine LW.done ?_
  refine T.ret ?_
  exact ⟨.inl rfl, _, _, res [_] rfl ⟨rvT rfl, trivial⟩, ⟨rfl, rfl⟩, Sub.any⟩
 ·
  obtain ⟨n, rfl⟩ : ∃ n : Nat, frames = n := ⟨frames.toNat, by omega⟩
  refine T.skip ?_
  refine T.seq ?_
  refine T.region ?_
  refine LW.q rfl (Qt.move rfl) ?_
  refine LW.e rfl (Ef.call (Bp.laid B n n rfl (by omega) (by omega)) Tryz.func5 rfl rfl rfl ?_)
  rintro _ _ ⟨gb, b, gl, g, D, rfl, ho, hl, hp, hz, rfl⟩
  try simp only [List.cons_append, List.nil_append]
  obtain rfl := blank_of hl hp hz
  refine LW.q rfl (Qt.assign rfl) ?_
  refine LW.done ?_
  refine T.seq ?_
  refine T.seq ?_
  refine T.region ?_
  refine LW.q rfl (Qt.move rfl) ?_
  first | refine LW.q rfl (Qt.eqlNil (by kernel_rfl) rfl rfl) ?_ | refine LW.q rfl (Qt.eqlNN (by kernel_rfl) rfl rfl) ?_
  refine LW.done ?_
  first | refine T.condF rfl ?_ | refine T.condPF rfl (by omega) ?_ | refine T.condBF rfl (by omega) ?_
  refine T.skip ?_
  refine T.seq ?_
  refine T.region ?_
  refine LW.e rfl (Ef.call (Rf.new B 12 (by omega) (by omega)) Tryz.func7 rfl rfl rfl ?_)
  rintro _ _ ⟨p0, a0, q0, c0, rfl, rfl⟩
  try simp only [List.cons_append, List.nil_append]
  refine LW.q rfl (Qt.move rfl) ?_
  refine LW.q rfl (Qt.extract rfl rfl) ?_
  refine LW.q rfl (Qt.extract rfl rfl) ?_
  refine LW.e rfl (Ef.alloc [.slice none 0 0, .slice none 0 0] (by unfold zeroB; kernel_rfl) ?_)
  intro g6
  refine LW.e0 rfl (Ef.store [_, _] (by kernel_rfl) rfl rfl rfl rfl (by simp) ?_)
  try simp only [splice, List.length_cons, List.length_nil, List.drop_succ_cons, List.cons_append, List.take_succ_cons, List.take_zero, List.drop_zero, List.nil_append, List.append_nil]
  refine LW.q rfl (Qt.assign rfl) ?_
  refine LW.done ?_
  refine T.seq ?_
  refine T.region ?_
  first | refine LW.q rfl (Qt.loadAgg [_, _] (by kernel_rfl) rfl ⟨rfl, rfl, trivial⟩) ?_ | refine LW.q rfl (Qt.loadAgg [_, _] (by kernel_rfl) rfl (by exact rdl_flat _ _ _ (by intros; rfl) _ (by omega))) ?_
  refine LW.e rfl (Ef.call (Rl.open B blankD p0 q0 a0 c0 12 0 (by simp) rfl ho (by omega) 0 4 0 4 rfl rfl (by omega) (by omega)) Tryz.func8 rfl rfl rfl ?_)
  rintro _ _ ⟨p4, a4, k4, s4, R4, q4, c4, x1, rfl, rfl⟩
  try simp only [List.cons_append, List.nil_append]
  obtain ⟨rfl, rfl, rfl, e4⟩ := blank_open x1
  rw [e4, List.take_zero, show (⟨0, 4, [], 0, 0⟩ : Wl) = mkW 0 4 [] 0 from rfl]
  refine LW.q rfl (Qt.move rfl) ?_
  refine LW.q rfl (Qt.extract rfl rfl) ?_
  refine LW.q rfl (Qt.extract rfl rfl) ?_
  refine LW.q rfl (Qt.extract rfl rfl) ?_
  refine LW.q rfl (Qt.extract rfl rfl) ?_
  refine LW.e rfl (Ef.alloc [.string .empty, .int .u32 0, .int .i64 0, .int .i64 0, .int .i64 0] (by unfold zeroB; kernel_rfl) ?_)
  intro g8
  refine LW.e0 rfl (Ef.store [_, _] (by kernel_rfl) rfl rfl rfl rfl (by simp) ?_)
  try simp only [splice, List.length_cons, List.length_nil, List.drop_succ_cons, List.cons_append, List.take_succ_cons, List.take_zero, List.drop_zero, List.nil_append, List.append_nil]
  refine LW.e0 rfl (Ef.store [_, _, _, _, _] (by kernel_rfl) rfl rfl rfl rfl (by simp) ?_)
  try simp only [splice, List.length_cons, List.length_nil, List.drop_succ_cons, List.cons_append, List.take_succ_cons, List.take_zero, List.drop_zero, List.nil_append, List.append_nil]
  refine LW.q rfl (Qt.assign rfl) ?_
  refine LW.q rfl (Qt.assign rfl) ?_
  refine LW.done ?_
  refine T.seq ?_
  refine T.region ?_
  first | refine LW.q rfl (Qt.loadAgg [_, _] (by kernel_rfl) rfl ⟨rfl, rfl, trivial⟩) ?_ | refine LW.q rfl (Qt.loadAgg [_, _] (by kernel_rfl) rfl (by exact rdl_flat _ _ _ (by intros; rfl) _ (by omega))) ?_
  first | refine LW.q rfl (Qt.loadAgg [_, _, _, _, _] (by kernel_rfl) rfl ⟨rfl, rfl, rfl, rfl, rfl, trivial⟩) ?_ | refine LW.q rfl (Qt.loadAgg [_, _, _, _, _] (by kernel_rfl) rfl (by exact rdl_flat _ _ _ (by intros; rfl) _ (by omega))) ?_
  refine LW.q rfl (Qt.move rfl) ?_
  refine LW.e rfl (Ef.call (Rp.new B p4 none a4 0 12 0 (mkW 0 4 [] 0) 4 8 n 4 8 n rfl rfl rfl (by omega)) Tryz.func9 rfl rfl rfl ?_)
  rintro _ _ ⟨pf0, cf0, rfl, rfl⟩
  try simp only [List.cons_append, List.nil_append]
  refine LW.e rfl (Ef.alloc [.slice none 0 0, .slice none 0 0, .string .empty, .int .u32 0, .int .i64 0, .int .i64 0, .int .i64 0, .int .i64 0, .int .i64 0, .slice none 0 0, .int .i64 0] (by unfold zeroB; kernel_rfl) ?_)
  intro g11
  refine LW.e0 rfl (Ef.store [_, _, _, _, _, _, _, _, _, _, _] (by kernel_rfl) rfl rfl rfl rfl (by simp) ?_)
  try simp only [splice, List.length_cons, List.length_nil, List.drop_succ_cons, List.cons_append, List.take_succ_cons, List.take_zero, List.drop_zero, List.nil_append, List.append_nil]
  refine LW.done ?_
  refine T.seq ?_
  refine T.region ?_
  refine LW.q rfl (Qt.move rfl) ?_
  refine LW.e rfl (Ef.call (Rp.wrong_no B 12 4 8 n (by omega) (by unfold wrongP; omega)) Tryz.func6 rfl rfl rfl ?_)
  rintro _ _ ⟨rfl, rfl⟩
  try simp only [List.cons_append, List.nil_append]
  refine LW.q rfl (Qt.eql rfl rfl) ?_
  refine LW.q rfl (Qt.assign rfl) ?_
  refine LW.done ?_
  refine T.seq ?_
  refine T.seq ?_
  refine T.region ?_
  refine LW.q rfl (Qt.move rfl) ?_
  refine LW.q rfl (Qt.len (e := 45) (sz := 4) (by kernel_rfl) rfl) ?_
  refine LW.q rfl (Qt.move rfl) ?_
  refine LW.done ?_
  refine T.block ?_
  have hinv0 := PInv.start n (by omega) (by omega)
  refine T.loop (fun mz fz lz => ∃ (f0 : Fr) (k : Nat) (s : Pl) (p q : Option Addr) (a c m : Nat) (pf : Option Addr) (cf : Nat), (k ≤ sc.length ∧ PInv 4 8 n k s ∧ s.D.secs.length = 12 ∧ s.D.pend.length = m) ∧ mz = sc.length - k ∧ fz = (upd (upd (upd (upd (upd (upd f0 5 (.pointer (some ⟨gb, 0, none⟩))) 11 (.pointer (some ⟨g11, 0, none⟩))) 12 (.bool true)) 42 (.slice sa sc.length scap)) 43 (.int .i64 sc.length)) 44 (.int .i64 k)) ∧ lz = benchB gb b gl g :: plA g b n 4 8 s.hand gl s.A :: wlA gl b s.W :: dskA b s.D :: rS (.slice p 12 a) 12 s.D.secs :: rW (.slice q m c) m s.D.pend :: raR pf n cf s.A :: blk g11 (rqC p q a c 12 m s.W 4 8 pf n cf s.hand) 41 :: F) ?_ ?_
  · refine ⟨_, _, ⟨_, 0, ⟨List.replicate n fa1, 0, mkW 0 4 [] 0, blankD⟩, p4, none, a4, 0, 0, pf0, cf0, ⟨Nat.zero_le _, hinv0, by simp, rfl⟩, rfl, (updS rfl (updS rfl (updS rfl (updS rfl (updS rfl (updS rfl rfl)))))), rfl⟩, Sub.any⟩
  ·
   rintro mz fz lz ⟨f0, k, s, p, q, a, c, m, pf, cf, ⟨hk, hinv, hsl2, hm⟩, hmz, rfl, rfl⟩
   subst mz
   try simp only [List.cons_append, List.nil_append]
   refine T.seq ?_
   refine T.region ?_
   refine LW.q rfl (Qt.lss rfl rfl) ?_
   refine LW.done ?_
   refine T.seq ?_
   refine T.condP rfl (fun hlt => ?_) (fun hlt => ?_)
   ·
    obtain ⟨kb, ko, C, rfl, hro, hC⟩ := hsc.resolve_left (by intro e; rw [e] at hlt; simp at hlt; omega)
    obtain ⟨da, dc, hrd, hdv⟩ := hC k (by omega)
    obtain ⟨hxl, hxm⟩ := hop sc[k] (List.getElem_mem _)
    refine T.skip ?_
    refine T.seq ?_
    refine T.block ?_
    refine T.seq ?_
    refine T.region ?_
    refine LW.q rfl (Qt.index _ (e := 45) (sz := 4) (by kernel_rfl) rfl rfl rfl (by omega)) ?_
    refine LW.q rfl (Qt.loadAgg [_, _, _, _] (by kernel_rfl) rfl hrd) ?_
    refine LW.e rfl (Ef.alloc [.int .i64 0, .int .i64 0, .slice none 0 0, .int .i64 0] (by unfold zeroB; kernel_rfl) ?_)
    intro g14
    refine LW.e0 rfl (Ef.store [_, _, _, _] (by kernel_rfl) rfl rfl rfl rfl (by simp) ?_)
    try simp only [splice, List.length_cons, List.length_nil, List.drop_succ_cons, List.cons_append, List.take_succ_cons, List.take_zero, List.drop_zero, List.nil_append, List.append_nil]
    refine LW.done ?_
    refine T.seq ?_
    refine T.seq ?_
    refine T.region ?_
    refine LW.q rfl (Qt.move rfl) ?_
    first | refine LW.q rfl (Qt.notP rfl) ?_ | refine LW.q rfl (Qt.notB rfl) ?_
    refine LW.done ?_
    first | refine T.condF rfl ?_ | refine T.condPF rfl (by omega) ?_ | refine T.condBF rfl (by omega) ?_
    refine T.skip ?_
    refine T.seq ?_
    refine T.region ?_
    refine LW.q rfl (Qt.move rfl) ?_
    first | refine LW.q rfl (Qt.loadAgg [_, _, _, _, _, _, _, _, _, _, _] (by kernel_rfl) rfl ⟨rfl, rfl, rfl, rfl, rfl, rfl, rfl, rfl, rfl, rfl, rfl, trivial⟩) ?_ | refine LW.q rfl (Qt.loadAgg [_, _, _, _, _, _, _, _, _, _, _] (by kernel_rfl) rfl (by exact rdl_flat _ _ _ (by intros; rfl) _ (by omega))) ?_
    first | refine LW.q rfl (Qt.loadAgg [_, _, _, _] (by kernel_rfl) rfl ⟨rfl, rfl, rfl, rfl, trivial⟩) ?_ | refine LW.q rfl (Qt.loadAgg [_, _, _, _] (by kernel_rfl) rfl (by exact rdl_flat _ _ _ (by intros; rfl) _ (by omega))) ?_
    refine LW.e rfl (Ef.call (Rp.step B gb g b gl n k s (stepPl s sc[k]) hinv (by omega) p q a c 12 m pf cf hsl2 hm sc[k] da dc hdv hxl rfl) Tryz.func10 rfl rfl rfl ?_)
    rintro _ _ ⟨p5, q5, a5, c5, m5, pf5, cf5, hm5, rfl, rfl⟩
    try simp only [List.cons_append, List.nil_append]
    obtain ⟨s5, hs5⟩ : ∃ s5, stepPl s sc[k] = s5 := ⟨_, rfl⟩
    have hinv5 := hinv.step (by omega) sc[k] hxm
    have hsl5 := step_len hinv (by omega) sc[k]
    rw [hs5] at hinv5 hsl5 hm5
    rw [hs5]
    refine LW.q rfl (Qt.move rfl) ?_
    refine LW.q rfl (Qt.extract rfl rfl) ?_
    refine LW.q rfl (Qt.extract rfl rfl) ?_
    refine LW.e0 rfl (Ef.store [_, _, _, _, _, _, _, _, _, _, _] (by kernel_rfl) rfl rfl rfl rfl (by simp) ?_)
    try simp only [splice, List.length_cons, List.length_nil, List.drop_succ_cons, List.cons_append, List.take_succ_cons, List.take_zero, List.drop_zero, List.nil_append, List.append_nil]
    refine LW.q rfl (Qt.assign rfl) ?_
    refine LW.done ?_
    refine T.region ?_
    refine LW.q rfl (Qt.move rfl) ?_
    refine LW.q rfl (Qt.move rfl) ?_
    first | refine LW.gT (t := 58) rfl rfl ?_ | refine LW.gT (t := 58) rfl (decide_eq_true (by omega)) ?_ | refine LW.gT (t := 58) rfl (by omega) ?_
    refine LW.q rfl (Qt.move rfl) ?_
    first | refine LW.q rfl (Qt.loadAgg [_, _, _, _, _, _, _, _, _, _, _] (by kernel_rfl) rfl ⟨rfl, rfl, rfl, rfl, rfl, rfl, rfl, rfl, rfl, rfl, rfl, trivial⟩) ?_ | refine LW.q rfl (Qt.loadAgg [_, _, _, _, _, _, _, _, _, _, _] (by kernel_rfl) rfl (by exact rdl_flat _ _ _ (by intros; rfl) _ (by omega))) ?_
    refine LW.e rfl (Ef.call (Rp.same B gb g b gl n (k + 1) s5 hinv5 (by omega) p5 q5 a5 c5 12 m5 pf5 cf5 (by omega) hm5) Tryz.func11 rfl rfl rfl ?_)
    rintro _ _ ⟨rfl, rfl⟩
    try simp only [List.cons_append, List.nil_append]
    refine LW.q rfl (Qt.pick rfl rfl) ?_
    refine LW.q rfl (Qt.assign rfl) ?_
    refine LW.done ?_
    refine T.region ?_
    refine LW.q rfl (Qt.add rfl rfl (wr64 (by omega) (by omega))) ?_
    refine LW.q rfl (Qt.move rfl) ?_
    refine LW.done ?_
    refine ⟨_, ?_, _, ⟨_, k + 1, s5, p5, q5, a5, c5, m5, pf5, cf5, ⟨by omega, hinv5, by omega, hm5⟩, rfl, (updS rfl (updS rfl (updS rfl (updS rfl (updS rfl (updS rfl rfl)))))), rfl⟩, Sub.any⟩
    first | omega | (simp; omega)
   ·
    refine T.exit ?_
    refine T.seq ?_
    refine T.region ?_
    refine LW.q rfl (Qt.move rfl) ?_
    refine LW.q rfl (Qt.assign rfl) ?_
    refine LW.done ?_
    refine T.ret ?_
    exact ⟨.inl rfl, _, _, res [_] rfl ⟨rvT rfl, trivial⟩, ⟨rfl, rfl⟩, Sub.any⟩
end Go.Proofs.YtegohgaccmkigaaGreatDoor

/- How the pool statements' struct Op reads. -/
set_option linter.unusedSimpArgs false
set_option linter.unusedVariables false
namespace Go.Proofs.YtegohgaccmkigaaGreatDoor
open Go.ChangeShapes Go.WideShapes Go.ChangeAt Go.RowKit

def OpOR (W : World) (cs : List Value) (o : OpB) : Prop := ∃ dv fd, cs = [.int .i64 o.kind, .int .i64 o.page, dv, .int .i64 o.mark] ∧ Reads W dv (bytesV o.data) fd ∧ -(2 ^ 63) ≤ o.mark ∧ o.mark < 2 ^ 63 ∧ -(2 ^ 63) ≤ o.page ∧ o.page < 2 ^ 63
section
variable {H : Type} {enc : TypeId × Value → H} {W : World}
theorem four_of_len {α : Type} {l : List α} (h : l.length = 4) : ∃ a b c d, l = [a, b, c, d] := by
  match l, h with
  | [a, b, c, d], _ => exact ⟨a, b, c, d, rfl⟩
theorem read_opO (n : Nat) (cs : List Value) (y : DataW H × List MemPlace) (h : Tr enc Tryz.prog W n 45 cs = some y) : ∃ o : OpB, OpOR W cs o ∧ o.data.length + 1 ≤ Rows.uptoBulk y.1 := by
  obtain ⟨xs, m, rfl, rfl, hl, hx, hf⟩ := DataW.trod_struct Tryz.underlying45 h
  rw [show Tryz.prog.cellsOf 45 = 4 by kernel_rfl] at hl
  obtain ⟨c0, c1, c2, c3, rfl⟩ := four_of_len hl
  obtain ⟨x0, x1, x2, x3, rfl⟩ := four_of_len hx
  have k0 : Tryz.prog.cellsOf 3 = 1 := by kernel_rfl
  have k3 : Tryz.prog.cellsOf 43 = 1 := by kernel_rfl
  have k4 : Tryz.prog.cellsOf 2 = 1 := by kernel_rfl
  have f0 := field_of hf 0 3 0 1 rfl k0
  have f1 := field_of hf 1 3 1 1 rfl k0
  have f2 := field_of hf 2 43 2 1 rfl k3
  have f3 := field_of hf 3 2 3 1 rfl k4
  simp only [List.drop_zero, List.drop_succ_cons, List.take_succ_cons, List.take_zero, List.getElem?_cons_zero, List.getElem?_cons_succ] at f0 f1 f2 f3
  obtain ⟨i0, e0, _, _⟩ := DataW.trod_int Tryz.underlying3 f0
  obtain ⟨i1, ⟨e1, b1, b2⟩, _⟩ := read_i64 Tryz.underlying3 _ _ _ f1
  obtain ⟨ld, fd, hd, hfd, hdl⟩ := read_bytes _ _ _ f2
  obtain ⟨i3, ⟨e3, b3, b4⟩, _⟩ := read_i64 Tryz.underlying2 _ _ _ f3
  simp only [List.cons.injEq, and_true] at e0 e1 e3
  subst e0; subst e1; subst e3
  refine ⟨⟨i0, i1, ld, i3⟩, ⟨c2, fd, rfl, hd, by dsimp only; omega, by dsimp only; omega, by dsimp only; omega, by dsimp only; omega⟩, ?_⟩
  simp only [List.map_cons, List.map_nil, Rows.uptoBulk, Rows.uptoBulkAll]
  omega
end
theorem SliceAt.roLO {W : World} {v : Value} {l : List OpB} (h : SliceAt W 4 (OpOR W) v l) : RoLO (baseOf W) v l := by
  obtain ⟨sa, sc, e, h⟩ := h.ro (by omega)
  refine ⟨sa, sc, e, h.imp id ?_⟩
  rintro ⟨b, o, C, e1, e2, h⟩
  refine ⟨b, o, C, e1, e2, fun i hi => ?_⟩
  obtain ⟨cells, h1, dv, fd, rfl, hd, _⟩ := h i hi
  have rd := RoS.ofReads hd
  obtain ⟨da, dc, e, hx⟩ := rd
  rw [length_bytesV] at e
  subst e
  exact ⟨da, dc, h1, da, dc, by rw [length_bytesV], hx⟩
theorem SliceAt.okO {W : World} {v : Value} {l : List OpB} (h : SliceAt W 4 (OpOR W) v l) : ∀ x ∈ l, -(2 ^ 63) ≤ x.mark ∧ x.mark < 2 ^ 63 ∧ -(2 ^ 63) ≤ x.page ∧ x.page < 2 ^ 63 := by
  intro x hx
  obtain ⟨sa, sc, e, h⟩ := h.ro (by omega)
  rcases h with rfl | ⟨b, o, C, e1, e2, h⟩
  · cases hx
  · obtain ⟨i, hi, rfl⟩ := List.getElem_of_mem hx
    obtain ⟨cells, h1, dv, fd, rfl, hd, h2⟩ := h i hi
    exact h2
theorem opO_le : ∀ {l : List OpB} {x : OpB}, x ∈ l → x.data.length ≤ (l.map fun o => o.data.length + 1).sum
  | a :: l, x, h => by
    simp only [List.map_cons, List.sum_cons]
    rcases List.mem_cons.1 h with rfl | h
    · omega
    · have := opO_le h; omega
end Go.Proofs.YtegohgaccmkigaaGreatDoor

/- The law BufferPlays of annalslaw06 holds (its card): for all arguments of bulk at most 1048576 the call returns true and the arguments read as before. Condition: the bound of the second form. -/
set_option linter.unusedSimpArgs false
set_option linter.unusedVariables false
namespace Go.Proofs.YtegohgaccmkigaaGreatDoor.bufferPlays
open Go.ChangeShapes Go.WideShapes Go.ChangeAt Go.RowKit

set_option maxRecDepth 100000 in
theorem contract (H : Type) (enc : TypeId × Value → H) (W : World) (base : Nat) (args : Array Value) (ds gs : List (DataW H)) (before : List MemPlace)
    (hval : ∀ (j : Nat) t v, Tryz.f3.params[j]? = some t → args[j]? = some v → Value.okWide Tryz.prog W .any base t v)
    (hW : DataW.Whole enc Tryz.prog Tryz.f3.params.toList Rows.bufferPlaysSpec.vars false W args.toList ds gs before) (hk : Rows.uptoSmall H (ds ++ gs) = true) :
    Calls Tryz.prog 3 args W fun e W' => ∃ v, e = .returned v ∧ Rows.bufferPlaysSpec.post enc Tryz.prog Tryz.f3 false true false false W args v W' := by
  have hW0 := hW
  obtain ⟨p, q, hA0, hV, rfl, hfz, hnd⟩ := hW
  have hA : DataW.TrodAll enc Tryz.prog W 0 (fun _ => true) true Tryz.f3.params.toList args.toList ds p := hA0
  rw [Tryz.params3] at hA hval
  obtain ⟨v0, v1, d0, d1, p0, p1, rfl, rfl, rfl, h0, h1⟩ := trodAll_two hA
  obtain ⟨rfl, rfl⟩ := trodVars_none hV
  have hbulk := Tryz.upto_bound hk
  rw [List.append_nil] at hbulk
  clear hA0 hV hk
  obtain ⟨a0, rfl, rfl, rfl, wf0⟩ := open_int Tryz.underlying3 (hval 0 3 v0 rfl rfl) h0
  obtain ⟨sa1, sl1, sc1, rfl⟩ := okWide_slice Tryz.underlying22 (hval 1 22 v1 rfl rfl)
  obtain ⟨fu1, t1⟩ := h1
  obtain ⟨sv1, l1, hc1, hs1, hB1, hL1⟩ := open_slice_R (enc := enc) (P := Tryz.prog) (W := W) (R := OpOR W) (B := fun o => o.data.length + 1) Tryz.underlying22 (show Tryz.prog.cellsOf 45 = 4 by kernel_rfl) (by omega) (fun n cs y => read_opO n cs y) t1
  simp only [Value.cells, List.cons.injEq, and_true] at hc1
  subst hc1
  dsimp only at hB1 hL1
  rw [bulk_two] at hbulk
  have bd0 := Go.bounds_i64 wf0
  have hok1 := hs1.okO

  refine (Fn.law (Rp.plays _ _ _ l1 hs1.roLO (by omega) (fun x hx => by have := opO_le hx; have := hok1 x hx; omega))).mono fun e W' ⟨he, hg⟩ => ?_
  subst he
  exact ⟨_, rfl, post_law Tryz.laidOut hW0 rfl rfl 4 Tryz.underlying4 (by kernel_rfl) (by rw [Tryz.params3]; decide +kernel) hg.toBelow⟩

theorem reads (os : Os) {H : Type} (enc : TypeId × Value → H) : ∃ places, DataW.whole enc Tryz.prog ((laidWorld os).forCall (fun _ _ => 0) ⟨#[], #[.int .i64 0, .slice none 0 0], []⟩).memory Tryz.f3.params.toList Rows.bufferPlaysSpec.vars false (#[.int .i64 0, .slice none 0 0] : Array Value).toList 8 = some ([.lit (.int .i64 0), .nil], [], places) :=
  ⟨[], by kernel_rfl⟩

set_option maxRecDepth 100000 in
theorem lifted (os : Os) (started : os.Started) (H : Type) (enc : TypeId × Value → H) (F : Stop.Interp) :
    ReturnsInHanded {} Tryz.checked os 3 .any ((Rows.OpenSpec.upto Rows.bufferPlaysSpec).preRow enc Tryz.prog Tryz.f3 Rows.bufferPlaysUptoRow.domain false Rows.bufferPlaysUptoRow.laid) (((Rows.OpenSpec.upto Rows.bufferPlaysSpec).at F).post enc Tryz.prog Tryz.f3 false true false false) := by
  obtain ⟨places, hx⟩ := reads os enc
  refine returnsInHanded_of_row (C := Tryz.checked) (s := Rows.OpenSpec.upto Rows.bufferPlaysSpec) Tryz.own started (by kernel_rfl) Tryz.func3
    (witness_row_at (enc := enc) (C := Tryz.checked) false (laidWorld os) #[.int .i64 0, .slice none 0 0] rfl (by kernel_rfl) (by kernel_rfl) (by kernel_rfl)
      (OpenSpec.preRow_of_cond 8 hx (by kernel_rfl) (fun k hk => by cases hk; kernel_rfl) (by kernel_rfl) (laid_met os _))) ?_
  intro W base args ds gs before hval hW _ hcond _ _ _ _
  exact contract H enc W base args ds gs before hval hW (hcond _ rfl)

theorem over : Rows.bufferPlaysUptoRow.holds Tryz.pinned (Rows.OpenSpec.upto Rows.bufferPlaysSpec) :=
  OpenClaim.holds_of_cond 3 Tryz.f3 rfl rfl rfl rfl rfl rfl rfl ⟨rfl, rfl, rfl, rfl, rfl⟩ rfl rfl rfl rfl rfl (by kernel_rfl) Tryz.func3 (by kernel_rfl)
    (of_decide_eq_true (by kernel_rfl)) (by unfold Func.isWrapper; first | (rw [if_pos (by decide +kernel)]; kernel_rfl) | (rw [if_neg (by decide +kernel)]; exact ⟨rfl, rfl⟩))
    (fun os started H enc _ F => by rw [OpenClaim.pre_eq_preRow]; exact lifted os started H enc F)

theorem plain (f : FuncId) (fn : Func) (hf : Tryz.pinned.checked.prog.funcNamed "annals/annalslaw06.BufferPlays" = some f) (hfn : Tryz.pinned.checked.prog.funcs[f]? = some fn) :
    false = Tryz.pinned.checked.prog.looks [] ∧ ∀ (j : Nat) t, fn.params[j]? = some t → Tryz.pinned.checked.prog.wantsStandIn t = false := by
  obtain rfl : f = 3 := Option.some.inj ((show Tryz.prog.funcNamed "annals/annalslaw06.BufferPlays" = some 3 by kernel_rfl).symm.trans hf) |>.symm
  obtain rfl : fn = Tryz.f3 := (Option.some.inj (Tryz.func3.symm.trans hfn)).symm
  refine ⟨by kernel_rfl, fun j t ht => ?_⟩
  rw [Tryz.params3] at ht
  have hall : ([3, 22] : List TypeId).all (fun t => !Tryz.prog.wantsStandIn t) = true := by kernel_rfl
  have := List.all_eq_true.1 hall t (by simpa using Array.mem_of_getElem? ht)
  exact (show Tryz.prog.wantsStandIn t = false by simpa using this)

theorem proved : Rows.BufferPlaysUptoCardSaid :=
  Claim7.holds_tied_plain_at .later [] _ _ _ _ over (fun _ h => by cases h) (by kernel_rfl) (fun _ h => by cases h) bufferPlaysUpto_row_tie rfl ⟨rfl, rfl⟩ (by kernel_rfl) rfl plain (by kernel_rfl)
end Go.Proofs.YtegohgaccmkigaaGreatDoor.bufferPlays
