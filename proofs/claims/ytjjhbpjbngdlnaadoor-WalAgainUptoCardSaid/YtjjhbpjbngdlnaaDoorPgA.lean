/- The package page: what a page is in memory; New, Count, Mark, SetMark, has, Left, Room, Get. Conditions: none. -/
import Derived.Test.YtjjhbpjbngdlnaaDoorTrA
namespace Go.Proofs.YtjjhbpjbngdlnaaDoor
open Go.RowKit

structure Rec where
  p : Option Addr
  c : Nat
  b : List UInt8
abbrev recV (r : Rec) : Value := .slice r.p r.b.length r.c
def recA (r : Rec) : Assn := rB (.slice r.p r.b.length r.c) r.b.length r.b
/-- The records' own memory. -/
def recsA (R : List Rec) : Assn := sepL (R.map recA)
def usedR (recs : List (List UInt8)) : Nat := (recs.map fun b => b.length + 1).sum
structure PgOk (recs : List (List UInt8)) : Prop where
  used : usedR recs ≤ 243
  len : ∀ b ∈ recs, b.length ≤ 200
abbrev pgB (g : Nat) (p : Option Addr) (n c : Nat) (mark : Int) : Assn := blk g [.slice p n c, .int .i64 mark] 95
abbrev pgR (p : Option Addr) (n c : Nat) (R : List Rec) : Assn := row (.slice p n c) 22 1 n (R.map recV)
/-- The page at block g: its records and its mark. -/
def pgA (g : Nat) (recs : List (List UInt8)) (mark : Int) : Assn := fun h => ∃ p c R, R.map Rec.b = recs ∧ PgOk recs ∧ Has [pgB g p R.length c mark, pgR p R.length c R, recsA R] h

section
variable {P : Program} {B : Base} {n : Nat} {l r F : List Assn} {f : Fr} {Φ : Post} {c : Code} {w : World}
theorem Own.openPg {g : Nat} {recs : List (List UInt8)} {mark : Int} (H : Own B w (pgA g recs mark :: l)) : ∃ p c R, R.map Rec.b = recs ∧ PgOk recs ∧ Own B w (pgB g p R.length c mark :: pgR p R.length c R :: recsA R :: l) := by
  obtain ⟨h, hd, hl, h1, h2, d, a1, a2, ⟨p, c, R, e1, e2, e3⟩, H2⟩ := H.has
  exact ⟨p, c, R, e1, e2, H.os, H.tape, H.output, H.ro, h, hd, hl, Has.join d a1 a2 e3 H2⟩
theorem Own.closePg {g : Nat} {p : Option Addr} {c : Nat} {R : List Rec} {mark : Int} (H : Own B w (pgB g p R.length c mark :: pgR p R.length c R :: recsA R :: l)) (hR : PgOk (R.map Rec.b)) : Own B w (pgA g (R.map Rec.b) mark :: l) := H.map fun _ k => by
  obtain ⟨h1, h2, d, a1, a2, k1, k2⟩ := Has.split (l := [_, _, _]) k
  exact ⟨h1, h2, d, a1, a2, ⟨p, c, R, rfl, hR, k1⟩, k2⟩
theorem Own.pgNew {g : Nat} {mark : Int} (H : Own B w (blk g [.slice none 0 0, .int .i64 mark] 95 :: l)) : Own B w (pgA g [] mark :: l) := H.map fun h ⟨h1, h2, d, a1, a2, k1, k2⟩ => by
  refine ⟨h1, h2, d, a1, a2, ⟨none, 0, [], rfl, ⟨by simp [usedR], by simp⟩, h1, fun _ => none, ⟨fun _ => .inr rfl⟩, Piece.le_refl _, ⟨fun _ _ e => by cases e⟩, k1, ?_⟩, k2⟩
  exact ⟨fun _ => none, fun _ => none, ⟨fun _ => .inl rfl⟩, Piece.le_refl _, Piece.le_refl _, ⟨by simp, .inl ⟨rfl, rfl⟩⟩, fun _ => none, fun _ => none, ⟨fun _ => .inl rfl⟩, Piece.le_refl _, Piece.le_refl _, trivial, trivial⟩
theorem Has.getL : ∀ {l : List Assn} {j : Nat} {A : Assn} {h : Piece}, l[j]? = some A → Has l h → ∃ k : Piece, Piece.le k h ∧ A k
  | [], _, _, _, e, _ => by cases e
  | A :: l, 0, A', h, e, ⟨h1, _, _, a, _, hA, _⟩ => by simp at e; subst e; exact ⟨h1, a, hA⟩
  | A :: l, j + 1, A', h, e, ⟨_, h2, _, _, b, _, hl⟩ => by
    obtain ⟨k, hk, hA⟩ := Has.getL (by simpa using e) hl
    exact ⟨k, hk.le_trans b, hA⟩
/-- Records that have bytes have memory. -/
def RecOk (R : List Rec) : Prop := ∀ j (h : j < R.length), 0 < R[j].b.length → ∃ g, R[j].p = some ⟨g, 0, none⟩
theorem Own.rec_owns {R : List Rec} (ho : Own B w (recsA R :: l)) (j : Nat) (hj : j < R.length) : w.ownsRow 0 5 1 (.slice R[j].p R[j].b.length R[j].c) R[j].b.length (bytesV R[j].b) := by
  obtain ⟨h, _, hl, h1, _, _, a1, _, hA, _⟩ := ho.has
  obtain ⟨k, hk, e⟩ := Has.getL (l := R.map recA) (j := j) (A := recA R[j]) (by simp [hj]) hA
  have le : ∀ g o, k g = some o → w.heap[g]? = some o := fun g o e => hl.p _ _ (a1.p _ _ (hk.p _ _ e))
  exact ⟨e.1, e.2.imp id fun ⟨g, cap, cur, e1, e2, e3⟩ => ⟨g, cap, cur, e1, Nat.zero_le _, le _ _ e2, e3⟩⟩
theorem Own.recOk {R : List Rec} (ho : Own B w (recsA R :: l)) : RecOk R := fun j hj h0 => by
  rcases (ho.rec_owns j hj).2 with ⟨_, h2⟩ | ⟨g, cap, cur, h2, _⟩
  · omega
  · injection h2 with h2; exact ⟨g, h2⟩
/-- A record can be read. -/
theorem RdV.rec {R : List Rec} (hR : RecOk R) {j : Nat} (hj : j < R.length) : RdV B [recsA R] (recV R[j]) (bytesV R[j].b) :=
  RdV.ofRow (e := 5) (fun _ ho => ho.rec_owns j hj) (by simp) (hR j hj)
theorem T.openPg (g : Nat) (recs : List (List UInt8)) (mark : Int) [k : TakeA (pgA g recs mark) l r] (h : ∀ p cc R, R.map Rec.b = recs → PgOk recs → RecOk R → R.length ≤ 243 → (0 < R.length → ∃ g, p = some ⟨g, 0, none⟩) → T P B n c Φ f (pgB g p R.length cc mark :: pgR p R.length cc R :: recsA R :: r)) : T P B n c Φ f l := ⟨fun Q w hf ho => by
  obtain ⟨p, cc, R, e1, e2, e3⟩ := (ho.take (k := k)).openPg
  refine (h p cc R e1 e2 (e3.tl.tl.recOk) ?_ (e3.tl.slice_at (p := p) (m := R.length) (c := cc)).2.1).run Q w hf e3
  have h1 := e2.used
  have h2 : ∀ l : List (List UInt8), l.length ≤ usedR l := fun l => by
    induction l with
    | nil => simp [usedR]
    | cons a l ih => simp [usedR] at ih ⊢; omega
  have := h2 recs
  rw [← e1] at this h1
  simp at this
  rw [e1] at h1 this
  omega⟩
theorem T.closePg (g : Nat) (p : Option Addr) (cc : Nat) (R : List Rec) (mark : Int) (hR : PgOk (R.map Rec.b)) [k : TakeL [pgB g p R.length cc mark, pgR p R.length cc R, recsA R] l r] (h : T P B n c Φ f (pgA g (R.map Rec.b) mark :: r)) : T P B n c Φ f l := ⟨fun Q w hf ho => h.run Q w hf ((ho.takeL (k := k)).closePg hR)⟩
theorem Sub.pg (g : Nat) (p : Option Addr) (cc : Nat) (R : List Rec) (mark : Int) (hR : PgOk (R.map Rec.b)) {m : List Assn} [k : TakeL [pgB g p R.length cc mark, pgR p R.length cc R, recsA R] l r] [t : SubC (pgA g (R.map Rec.b) mark :: r) m] : Sub l m := fun h H => by
  obtain ⟨h1, h2, d, a1, a2, k1, k2⟩ := Has.split (k.take h H)
  exact t.sub h ⟨h1, h2, d, a1, a2, ⟨p, cc, R, rfl, hR, k1⟩, k2⟩
theorem Has.two {A1 A2 : Assn} {h : Piece} (H : Has (A1 :: A2 :: l) h) : Has (sepL [A1, A2] :: l) h := Has.close_sepL (l := [A1, A2]) H
theorem recsA_snoc {R : List Rec} {r : Rec} {h : Piece} (H : Has (recsA R :: recA r :: l) h) : Has (recsA (R ++ [r]) :: l) h := by
  have h1 : Has ((R.map recA ++ [recA r]) ++ l) h := by
    rw [List.append_assoc]
    exact Has.open_sepL H
  have h2 := Has.close_sepL h1
  unfold recsA
  rw [List.map_append]
  exact h2
/-- The page with a record more. -/
theorem Sub.pgAdd (g : Nat) (p : Option Addr) (n cc : Nat) (R : List Rec) (rp : Option Addr) (rc : Nat) (rb : List UInt8) (mark : Int) (hn : n = R.length + 1) (recs : List (List UInt8)) (he : (R ++ [Rec.mk rp rc rb]).map Rec.b = recs) (hR : PgOk recs) {m : List Assn} [k : TakeL [pgB g p n cc mark, pgR p n cc (R ++ [Rec.mk rp rc rb]), recsA R, rB (.slice rp rb.length rc) rb.length rb] l r] [t : SubC (pgA g recs mark :: r) m] : Sub l m := fun h H => by
  subst hn
  have e : R.length + 1 = (R ++ [(⟨rp, rc, rb⟩ : Rec)]).length := by simp
  have H1 := k.take h H
  obtain ⟨h1, h2, d, a1, a2, k1, k2⟩ := Has.split H1
  rw [e] at k1
  refine t.sub h ⟨h1, h2, d, a1, a2, ⟨p, cc, R ++ [⟨rp, rc, rb⟩], he, hR, ?_⟩, k2⟩
  exact Has.cons_imp (fun _ k => Has.cons_imp (fun _ k => recsA_snoc (l := []) k) k) k1
end

set_option maxRecDepth 100000 in
theorem Pg.new (B : Base) : Fn Tryd.prog B 13 #[] [] (fun v l => ∃ g, v = .pointer (some ⟨g, 0, none⟩) ∧ l = [pgA g [] 0]) := by
  refine Fn.enter0 3 Tryd.func13 rfl rfl (Nat.le_of_ble_eq_true rfl) (fun F => ?_)
  try simp only [List.cons_append, List.nil_append]
  refine T.seq ?_
  refine T.region ?_
  refine LW.q rfl (Qt.assign rfl) ?_
  refine LW.done ?_
  refine T.seq ?_
  refine T.region ?_
  refine LW.q rfl (Qt.build [(0, 1), (1, 1)] [.slice none 0 0, .int .i64 0] [_, _] [] (by kernel_rfl) (by unfold zeroB; kernel_rfl) rfl rfl) ?_
  refine LW.e rfl (Ef.box [_, _] rfl rfl ?_)
  intro g2
  refine LW.q rfl (Qt.assign rfl) ?_
  refine LW.done ?_
  refine T.conv (fun w ho => ho.pgNew) ?_
  refine T.ret ?_
  exact ⟨.inl rfl, _, _, res [_] rfl ⟨rvT rfl, trivial⟩, ⟨_, rfl, rfl⟩, Sub.any⟩
set_option maxRecDepth 100000 in
theorem Pg.count (B : Base) (g : Nat) (recs : List (List UInt8)) (mark : Int) : Fn Tryd.prog B 16 #[.pointer (some ⟨g, 0, none⟩)] [pgA g recs mark] (fun v l => v = .int .i64 recs.length ∧ l = [pgA g recs mark]) := by
  refine Fn.enter1 8 Tryd.func16 rfl rfl (Nat.le_of_ble_eq_true rfl) (fun F => ?_)
  try simp only [List.cons_append, List.nil_append]
  refine T.openPg g recs mark (fun p c R hR hok hro hlen hp => ?_)
  subst hR
  refine T.seq ?_
  refine T.region ?_
  refine LW.q rfl (Qt.assign rfl) ?_
  refine LW.done ?_
  refine T.seq ?_
  refine T.region ?_
  refine LW.q rfl (Qt.move rfl) ?_
  refine LW.q rfl (Qt.nilCheck rfl) ?_
  refine LW.q rfl (Qt.fieldAddr0 (by kernel_rfl) rfl) ?_
  first | refine LW.q rfl (Qt.load (by kernel_rfl) rfl rfl) ?_ | refine LW.q rfl (Qt.load (by kernel_rfl) rfl (map_at _ _ _ (by omega))) ?_ | refine LW.q rfl (Qt.load (by kernel_rfl) rfl (flat_cell0 _ _ _ (by intros; rfl) _ (by omega) (by rfl))) ?_ | refine LW.q rfl (Qt.load (by kernel_rfl) rfl (flat_cell _ _ _ (by intros; rfl) _ _ (by omega) (by rfl))) ?_ | refine LW.q rfl (Qt.load (by kernel_rfl) rfl (bytes_at _ _ (by omega))) ?_
  refine LW.q rfl (Qt.len (e := 22) (sz := 1) (by kernel_rfl) rfl) ?_
  refine LW.q rfl (Qt.assign rfl) ?_
  refine LW.done ?_
  refine T.ret ?_
  exact ⟨.inl rfl, _, _, res [_] rfl ⟨rvT rfl, trivial⟩, ⟨by simp; rfl, rfl⟩, Sub.pg g p c R mark hok⟩
set_option maxRecDepth 100000 in
theorem Pg.mark (B : Base) (g : Nat) (recs : List (List UInt8)) (mark : Int) : Fn Tryd.prog B 20 #[.pointer (some ⟨g, 0, none⟩)] [pgA g recs mark] (fun v l => v = .int .i64 mark ∧ l = [pgA g recs mark]) := by
  refine Fn.enter1 7 Tryd.func20 rfl rfl (Nat.le_of_ble_eq_true rfl) (fun F => ?_)
  try simp only [List.cons_append, List.nil_append]
  refine T.openPg g recs mark (fun p c R hR hok hro hlen hp => ?_)
  subst hR
  refine T.seq ?_
  refine T.region ?_
  refine LW.q rfl (Qt.assign rfl) ?_
  refine LW.done ?_
  refine T.seq ?_
  refine T.region ?_
  refine LW.q rfl (Qt.move rfl) ?_
  refine LW.q rfl (Qt.nilCheck rfl) ?_
  refine LW.q rfl (Qt.fieldAddr (off := 1) (by kernel_rfl) rfl) ?_
  first | refine LW.q rfl (Qt.load (by kernel_rfl) rfl rfl) ?_ | refine LW.q rfl (Qt.load (by kernel_rfl) rfl (map_at _ _ _ (by omega))) ?_ | refine LW.q rfl (Qt.load (by kernel_rfl) rfl (flat_cell0 _ _ _ (by intros; rfl) _ (by omega) (by rfl))) ?_ | refine LW.q rfl (Qt.load (by kernel_rfl) rfl (flat_cell _ _ _ (by intros; rfl) _ _ (by omega) (by rfl))) ?_ | refine LW.q rfl (Qt.load (by kernel_rfl) rfl (bytes_at _ _ (by omega))) ?_
  refine LW.q rfl (Qt.assign rfl) ?_
  refine LW.done ?_
  refine T.ret ?_
  exact ⟨.inl rfl, _, _, res [_] rfl ⟨rvT rfl, trivial⟩, ⟨rfl, rfl⟩, Sub.pg g p c R mark hok⟩
set_option maxRecDepth 100000 in
theorem Pg.setMark (B : Base) (g : Nat) (recs : List (List UInt8)) (mark m : Int) : Fn Tryd.prog B 21 #[.pointer (some ⟨g, 0, none⟩), .int .i64 m] [pgA g recs mark] (fun v l => v = .tuple #[] ∧ l = [pgA g recs m]) := by
  refine Fn.enter2 8 Tryd.func21 rfl rfl (Nat.le_of_ble_eq_true rfl) (fun F => ?_)
  try simp only [List.cons_append, List.nil_append]
  refine T.openPg g recs mark (fun p c R hR hok hro hlen hp => ?_)
  subst hR
  refine T.region ?_
  refine LW.q rfl (Qt.move rfl) ?_
  refine LW.q rfl (Qt.move rfl) ?_
  refine LW.q rfl (Qt.nilCheck rfl) ?_
  refine LW.q rfl (Qt.fieldAddr (off := 1) (by kernel_rfl) rfl) ?_
  refine LW.e0 rfl (Ef.store1 (by kernel_rfl) rfl rfl rfl (by first | (simp; done) | (simp; omega)) ?_)
  try simp only [List.set_cons_zero, List.set_cons_succ]
  refine LW.done ?_
  exact ⟨.inr rfl, _, _, res [] rfl trivial, ⟨rfl, rfl⟩, Sub.pg g p c R m hok⟩
set_option maxRecDepth 100000 in
theorem Pg.has (B : Base) (g : Nat) (recs : List (List UInt8)) (mark i : Int) : Fn Tryd.prog B 52 #[.pointer (some ⟨g, 0, none⟩), .int .i64 i] [pgA g recs mark] (fun v l => v = .bool (decide (0 ≤ i ∧ i < (recs.length : Int))) ∧ l = [pgA g recs mark]) := by
  refine Fn.enter2 16 Tryd.func52 rfl rfl (Nat.le_of_ble_eq_true rfl) (fun F => ?_)
  try simp only [List.cons_append, List.nil_append]
  refine T.openPg g recs mark (fun p c R hR hok hro hlen hp => ?_)
  subst hR
  refine T.seq ?_
  refine T.region ?_
  refine LW.q rfl (Qt.assign rfl) ?_
  refine LW.done ?_
  refine T.seq ?_
  refine T.region ?_
  refine LW.q rfl (Qt.move rfl) ?_
  refine LW.q rfl (Qt.geq rfl rfl) ?_
  refine LW.q rfl (Qt.move rfl) ?_
  refine LW.split (t := 7) rfl (fun h => ?_) (fun h => ?_)
  · skip
    try replace h := of_decide_eq_true h
    refine LW.q rfl (Qt.move rfl) ?_
    refine LW.q rfl (Qt.move rfl) ?_
    refine LW.q rfl (Qt.nilCheck rfl) ?_
    refine LW.q rfl (Qt.fieldAddr0 (by kernel_rfl) rfl) ?_
    first | refine LW.q rfl (Qt.load (by kernel_rfl) rfl rfl) ?_ | refine LW.q rfl (Qt.load (by kernel_rfl) rfl (map_at _ _ _ (by omega))) ?_ | refine LW.q rfl (Qt.load (by kernel_rfl) rfl (flat_cell0 _ _ _ (by intros; rfl) _ (by omega) (by rfl))) ?_ | refine LW.q rfl (Qt.load (by kernel_rfl) rfl (flat_cell _ _ _ (by intros; rfl) _ _ (by omega) (by rfl))) ?_ | refine LW.q rfl (Qt.load (by kernel_rfl) rfl (bytes_at _ _ (by omega))) ?_
    refine LW.q rfl (Qt.len (e := 22) (sz := 1) (by kernel_rfl) rfl) ?_
    refine LW.q rfl (Qt.lss rfl rfl) ?_
    refine LW.q rfl (Qt.pick rfl rfl) ?_
    refine LW.q rfl (Qt.assign rfl) ?_
    refine LW.done ?_
    refine T.ret ?_
    exact ⟨.inl rfl, _, _, res [_] rfl ⟨rvT rfl, trivial⟩, ⟨by simp [h, outV], rfl⟩, Sub.pg g p c R mark hok⟩
  · skip
    try replace h := of_decide_eq_false h
    refine LW.s rfl ?_
    refine LW.s rfl ?_
    refine LW.s rfl ?_
    refine LW.s rfl ?_
    refine LW.s rfl ?_
    refine LW.s rfl ?_
    refine LW.s rfl ?_
    refine LW.q rfl (Qt.pick rfl rfl) ?_
    refine LW.q rfl (Qt.assign rfl) ?_
    refine LW.done ?_
    refine T.ret ?_
    exact ⟨.inl rfl, _, _, res [_] rfl ⟨rvT rfl, trivial⟩, ⟨by simp [h, outV], rfl⟩, Sub.pg g p c R mark hok⟩
theorem usedR_append (a b : List (List UInt8)) : usedR (a ++ b) = usedR a + usedR b := by simp [usedR]
theorem usedR_take (l : List (List UInt8)) (k : Nat) : usedR (l.take k) ≤ usedR l := by
  have := usedR_append (l.take k) (l.drop k)
  rw [List.take_append_drop] at this
  omega
set_option maxRecDepth 100000 in
theorem Pg.left (B : Base) (g : Nat) (recs : List (List UInt8)) (mark : Int) : Fn Tryd.prog B 47 #[.pointer (some ⟨g, 0, none⟩)] [pgA g recs mark] (fun v l => v = .int .i64 (243 - (usedR recs : Int)) ∧ l = [pgA g recs mark]) := by
  refine Fn.enter1 22 Tryd.func47 rfl rfl (Nat.le_of_ble_eq_true rfl) (fun F => ?_)
  try simp only [List.cons_append, List.nil_append]
  refine T.openPg g recs mark (fun p c R hR hok hro hlen hp => ?_)
  subst hR
  have hu : ∀ k, usedR ((R.map Rec.b).take k) ≤ 243 := fun k => Nat.le_trans (usedR_take _ k) hok.used
  refine T.seq ?_
  refine T.region ?_
  refine LW.q rfl (Qt.assign rfl) ?_
  refine LW.done ?_
  refine T.seq ?_
  refine T.region ?_
  refine LW.q rfl (Qt.assign rfl) ?_
  refine LW.done ?_
  refine T.seq ?_
  refine T.seq ?_
  refine T.region ?_
  refine LW.q rfl (Qt.move rfl) ?_
  refine LW.q rfl (Qt.nilCheck rfl) ?_
  refine LW.q rfl (Qt.fieldAddr0 (by kernel_rfl) rfl) ?_
  first | refine LW.q rfl (Qt.load (by kernel_rfl) rfl rfl) ?_ | refine LW.q rfl (Qt.load (by kernel_rfl) rfl (map_at _ _ _ (by omega))) ?_ | refine LW.q rfl (Qt.load (by kernel_rfl) rfl (flat_cell0 _ _ _ (by intros; rfl) _ (by omega) (by rfl))) ?_ | refine LW.q rfl (Qt.load (by kernel_rfl) rfl (flat_cell _ _ _ (by intros; rfl) _ _ (by omega) (by rfl))) ?_ | refine LW.q rfl (Qt.load (by kernel_rfl) rfl (bytes_at _ _ (by omega))) ?_
  refine LW.q rfl (Qt.len (e := 22) (sz := 1) (by kernel_rfl) rfl) ?_
  refine LW.q rfl (Qt.move rfl) ?_
  refine LW.done ?_
  refine T.block ?_
  refine T.loop (fun mz fz lz => ∃ (f0 : Fr) (k : Nat) (z : Int), (k ≤ R.length ∧ z = 243 - (usedR ((R.map Rec.b).take k) : Int)) ∧ mz = R.length - k ∧ fz = (upd (upd (upd (upd f0 3 (.int .i64 z)) 9 (.slice p R.length c)) 10 (.int .i64 R.length)) 11 (.int .i64 k)) ∧ lz = [pgB g p R.length c mark, pgR p R.length c R, recsA R] ++ F) ?_ ?_
  · refine ⟨_, _, ⟨_, 0, _, ⟨Nat.zero_le _, by simp [usedR]⟩, rfl, (updS rfl (updS rfl (updS rfl (updS rfl rfl)))), rfl⟩, Sub.any⟩
  · skip
    rintro mz fz lz ⟨f0, k, z, ⟨hk, hz⟩, hmz, rfl, rfl⟩
    subst mz
    try simp only [List.cons_append, List.nil_append]
    refine T.seq ?_
    refine T.region ?_
    refine LW.q rfl (Qt.lss rfl rfl) ?_
    refine LW.done ?_
    refine T.seq ?_
    refine T.condP rfl (fun hlt => ?_) (fun hlt => ?_)
    · skip
      obtain ⟨gp, rfl⟩ := hp (by omega)
      have hrec := hok.len (R[k]'(by omega)).b (List.mem_map_of_mem (List.getElem_mem _))
      have huk := hu k
      refine T.skip ?_
      refine T.seq ?_
      refine T.block ?_
      refine T.seq ?_
      refine T.region ?_
      refine LW.q rfl (Qt.index _ (e := 22) (sz := 1) (by kernel_rfl) rfl rfl rfl (by omega)) ?_
      first | refine LW.q rfl (Qt.load (by kernel_rfl) rfl rfl) ?_ | refine LW.q rfl (Qt.load (by kernel_rfl) rfl (map_at _ _ _ (by omega))) ?_ | refine LW.q rfl (Qt.load (by kernel_rfl) rfl (flat_cell0 _ _ _ (by intros; rfl) _ (by omega) (by rfl))) ?_ | refine LW.q rfl (Qt.load (by kernel_rfl) rfl (flat_cell _ _ _ (by intros; rfl) _ _ (by omega) (by rfl))) ?_ | refine LW.q rfl (Qt.load (by kernel_rfl) rfl (bytes_at _ _ (by omega))) ?_
      refine LW.q rfl (Qt.assign rfl) ?_
      refine LW.done ?_
      refine T.region ?_
      refine LW.q rfl (Qt.move rfl) ?_
      refine LW.q rfl (Qt.move rfl) ?_
      refine LW.q rfl (Qt.len (e := 5) (sz := 1) (by kernel_rfl) rfl) ?_
      refine LW.q rfl (Qt.add rfl rfl (wr64 (by omega) (by omega))) ?_
      refine LW.q rfl (Qt.sub rfl rfl (wr64 (by omega) (by omega))) ?_
      refine LW.q rfl (Qt.assign rfl) ?_
      refine LW.done ?_
      refine T.region ?_
      refine LW.q rfl (Qt.add rfl rfl (wr64 (by omega) (by omega))) ?_
      refine LW.q rfl (Qt.move rfl) ?_
      refine LW.done ?_
      refine ⟨_, ?_, _, ⟨_, k + 1, _, ⟨by omega, by rw [hz, List.take_succ_eq_append_getElem (by simp; omega)]; simp [usedR]; omega⟩, rfl, (updS rfl (updS rfl (updS rfl (updS rfl rfl)))), rfl⟩, Sub.any⟩
      first | omega | (simp; omega)
    · skip
      have e : k = R.length := by omega
      subst e
      rw [List.take_of_length_le (by simp)] at hz
      refine T.exit ?_
      refine T.seq ?_
      refine T.region ?_
      refine LW.q rfl (Qt.move rfl) ?_
      refine LW.q rfl (Qt.assign rfl) ?_
      refine LW.done ?_
      refine T.ret ?_
      exact ⟨.inl rfl, _, _, res [_] rfl ⟨rvT rfl, trivial⟩, ⟨by rw [hz]; rfl, rfl⟩, Sub.pg g p c R mark hok⟩
end Go.Proofs.YtjjhbpjbngdlnaaDoor
