/- The package page: Bytes. Conditions: none. -/
import Derived.Test.YtjjhbpjbngdlnaaDoorPgB
namespace Go.Proofs.YtjjhbpjbngdlnaaDoor
open Go.RowKit

def recBytes (recs : List (List UInt8)) : List UInt8 := recs.flatMap fun b => UInt8.ofNat b.length :: b
theorem length_recBytes (recs : List (List UInt8)) : (recBytes recs).length = usedR recs := by
  induction recs with
  | nil => rfl
  | cons b l ih => simp [recBytes, usedR] at ih ⊢; omega
theorem recBytes_snoc (l : List (List UInt8)) (b : List UInt8) : recBytes (l ++ [b]) = recBytes l ++ (UInt8.ofNat b.length :: b) := by simp [recBytes]
/-- The bytes ahead of the records, without the sum. -/
def pgHead (n : Nat) (mark : Int) : List UInt8 := be (UInt64.ofInt mark) 8 ++ [UInt8.ofNat n]
def pgBody (recs : List (List UInt8)) (mark : Int) : List UInt8 := pgHead recs.length mark ++ recBytes recs ++ List.replicate (243 - usedR recs) 0
def sumN (l : List UInt8) : UInt64 := (crc l).toUInt64
def pgBytes (recs : List (List UInt8)) (mark : Int) : List UInt8 := be (sumN (pgBody recs mark)) 4 ++ pgBody recs mark
theorem length_pgHead (n : Nat) (mark : Int) : (pgHead n mark).length = 9 := by simp [pgHead, length_be]
theorem length_pgBody {recs : List (List UInt8)} {mark : Int} (h : usedR recs ≤ 243) : (pgBody recs mark).length = 252 := by
  simp [pgBody, length_pgHead, length_recBytes]; omega
theorem length_pgBytes {recs : List (List UInt8)} {mark : Int} (h : usedR recs ≤ 243) : (pgBytes recs mark).length = 256 := by
  simp [pgBytes, length_be, length_pgBody h]
theorem sumN_nat (l : List UInt8) : IntKind.u64.wrap ((crc l).toNat : Int) = ((sumN l).toNat : Int) := by
  rw [wru64 (by omega) (by have := (crc l).toNat_lt; omega), sumN, UInt32.toNat_toUInt64]
theorem bytesV_append (a b : List UInt8) : bytesV (a ++ b) = bytesV a ++ bytesV b := by simp [bytesV]
theorem bytesV_one (x : UInt8) : [Value.int .u8 (x.toNat : Int)] = bytesV [x] := rfl
theorem bytesV_zero (n : Nat) : List.replicate n (Value.int .u8 0) = bytesV (List.replicate n 0) := by simp [bytesV]

theorem PartsV.one {B : Base} {L : List Assn} {g : Nat} {v : Value} {b : List UInt8} (h : RdV B L v (bytesV b)) [k : Rd B g L [v]] : PartsV B L (.slice (some ⟨g, 0, none⟩) 1 1) [b] := by
  refine ⟨[v], ⟨_, 1, rfl, .inr ⟨g, 0, rfl, fun w ho => ho.range (g := g) (C := [v]) (fun j u hj => by rw [Nat.zero_add]; exact hj)⟩⟩, rfl, fun i h1 h2 => ?_⟩
  obtain rfl : i = 0 := by simp at h1; omega
  exact h
theorem rdv_tail4 {B : Base} {L : List Assn} {g5 c5 : Nat} {body : List UInt8} (hb : body.length = 252) (hc : 256 ≤ c5) (hs : Sub L [rB (.slice (some ⟨g5, 0, none⟩) 256 c5) 256 (List.replicate 4 0 ++ body)]) : RdV B L (.slice (offA (some ⟨g5, 0, none⟩) c5 4 1) (256 - 4) (c5 - 4)) (bytesV body) := by
  have h1 : RdV B L (.slice (some ⟨g5, 0, none⟩) 256 c5) (bytesV (List.replicate 4 0 ++ body)) := (RdV.rB (by simp [hb]) (fun _ => ⟨_, rfl⟩)).mono (fun w ho => ho.map hs)
  have h2 := h1.sub 4 256 (c5 - 4) (by omega) (by simp [hb]) (offA (some ⟨g5, 0, none⟩) c5 4 1) (fun _ b o e => by cases e; rw [offA_some (by omega)])
  have e : ((bytesV (List.replicate 4 0 ++ body)).take 256).drop 4 = bytesV body := by
    rw [List.take_of_length_le (by simp [hb]), bytesV_append, List.drop_append_of_le_length (by simp), List.drop_of_length_le (by simp)]
    simp
  rwa [e] at h2
theorem splice_head (body : List UInt8) (x : List UInt8) (hx : x.length = 4) : splice (bytesV (List.replicate 4 0 ++ body)) 0 (bytesV x) = bytesV (x ++ body) := by
  unfold splice
  rw [bytesV_append, bytesV_append, Nat.zero_add, length_bytesV, hx, List.drop_append_of_le_length (by simp), List.drop_of_length_le (by simp)]
  simp

set_option maxHeartbeats 2000000 in
set_option maxRecDepth 100000 in
theorem Pg.bytes (B : Base) (g : Nat) (recs : List (List UInt8)) (mark : Int) : Fn Tryd.prog B 18 #[.pointer (some ⟨g, 0, none⟩)] [pgA g recs mark] (fun v l => ∃ p c, v = .slice p 256 c ∧ l = [rB (.slice p 256 c) 256 (pgBytes recs mark), pgA g recs mark]) := by
  refine Fn.enter1 54 Tryd.func18 rfl rfl (Nat.le_of_ble_eq_true rfl) (fun F => ?_)
  try simp only [List.cons_append, List.nil_append]
  refine T.openPg g recs mark (fun p c R hR hok hro hlen hp => ?_)
  subst hR
  refine T.seq ?_
  refine T.region ?_
  refine LW.q rfl (Qt.assign rfl) ?_
  refine LW.done ?_
  refine T.seq ?_
  refine T.drawBl 7 none (by kernel_rfl) (Nat.le_of_ble_eq_true rfl) (by kernel_rfl) ?_
  refine RW.q 1 rfl rfl (by kernel_rfl) Sub.any (Qt.move rfl) ?_
  refine RW.q 2 rfl rfl (by kernel_rfl) Sub.any (Qt.nilCheck rfl) ?_
  refine RW.q 3 rfl rfl (by kernel_rfl) Sub.any (Qt.fieldAddr (off := 1) (by kernel_rfl) rfl) ?_
  first | refine RW.q 4 rfl rfl (by kernel_rfl) Sub.any (Qt.load (by kernel_rfl) rfl rfl) ?_ | refine RW.q 4 rfl rfl (by kernel_rfl) Sub.any (Qt.load (by kernel_rfl) rfl (map_at _ _ _ (by omega))) ?_ | refine RW.q 4 rfl rfl (by kernel_rfl) Sub.any (Qt.load (by kernel_rfl) rfl (flat_cell0 _ _ _ (by intros; rfl) _ (by omega) (by rfl))) ?_ | refine RW.q 4 rfl rfl (by kernel_rfl) Sub.any (Qt.load (by kernel_rfl) rfl (flat_cell _ _ _ (by intros; rfl) _ _ (by omega) (by rfl))) ?_ | refine RW.q 4 rfl rfl (by kernel_rfl) Sub.any (Qt.load (by kernel_rfl) rfl (bytes_at _ _ (by omega))) ?_
  refine RW.q 5 rfl rfl (by kernel_rfl) Sub.any (Qt.convI (by kernel_rfl) (by kernel_rfl) rfl (wru64_i64 _)) ?_
  refine RW.one 0 (by kernel_rfl) ?_
  refine RO.eS rfl rfl (Ef.make 4 (.int .u8 0) 1 Cd.elemB (by kernel_rfl) rfl rfl rfl rfl (by omega) (by unfold maxLen; omega) ?_)
  rintro g6
  try simp only [List.cons_append, List.nil_append]
  rw [made_bytes]
  refine ⟨Sub.any, ?_⟩
  refine RW.one 6 (by kernel_rfl) ?_
  refine RO.eS rfl rfl (Ef.call (Cd.put B [rB (.slice (some ⟨g6, 0, none⟩) 4 4) 4 (List.replicate 4 0)] _ (List.replicate 4 0) 4 rfl (UInt64.ofInt mark) _ 8 rfl (by omega) (RdV.rB rfl (fun _ => ⟨_, rfl⟩)) (by omega)) Tryd.func53 rfl rfl rfl ?_)
  rintro _ _ ⟨p1, c1, rfl, rfl⟩
  try simp only [List.cons_append, List.nil_append]
  refine ⟨Sub.any, ?_⟩
  refine RW.done (by rfl) ?_
  simp only [List.drop_succ_cons, List.drop_zero, List.drop_nil]
  refine LW.q rfl (Qt.assign rfl) ?_
  refine LW.done ?_
  refine T.seq ?_
  refine T.region ?_
  refine LW.q rfl (Qt.move rfl) ?_
  refine LW.q rfl (Qt.move rfl) ?_
  refine LW.q rfl (Qt.nilCheck rfl) ?_
  refine LW.q rfl (Qt.fieldAddr0 (by kernel_rfl) rfl) ?_
  first | refine LW.q rfl (Qt.load (by kernel_rfl) rfl rfl) ?_ | refine LW.q rfl (Qt.load (by kernel_rfl) rfl (map_at _ _ _ (by omega))) ?_ | refine LW.q rfl (Qt.load (by kernel_rfl) rfl (flat_cell0 _ _ _ (by intros; rfl) _ (by omega) (by rfl))) ?_ | refine LW.q rfl (Qt.load (by kernel_rfl) rfl (flat_cell _ _ _ (by intros; rfl) _ _ (by omega) (by rfl))) ?_ | refine LW.q rfl (Qt.load (by kernel_rfl) rfl (bytes_at _ _ (by omega))) ?_
  refine LW.q rfl (Qt.len (e := 22) (sz := 1) (by kernel_rfl) rfl) ?_
  refine LW.q rfl (Qt.convI (by kernel_rfl) (by kernel_rfl) rfl (wr8_nat _)) ?_
  refine LW.e rfl (Ef.one [_] (e := 5) (sz := 1) (by kernel_rfl) ⟨.int .u8 0, by kernel_rfl, rfl⟩ rfl rfl rfl (by omega) (by omega) ?_)
  intro g20
  refine LW.e rfl (Ef.append Cd.elemB rfl rfl (SrcOf.blk (by kernel_rfl) rfl (by simp [Value.oneCell'])) (by unfold maxLen; omega) (by omega) ?_)
  rintro p2 c2 hp2
  try simp only [List.cons_append, List.nil_append]
  rw [bytesV_one, ← bytesV_append, List.append_assoc]
  rw [show be (UInt64.ofInt mark) 8 ++ [UInt8.ofNat R.length] = pgHead R.length mark from rfl]
  refine LW.q rfl (Qt.assign rfl) ?_
  refine LW.done ?_
  refine T.seq ?_
  refine T.seq ?_
  refine T.region ?_
  refine LW.q rfl (Qt.move rfl) ?_
  refine LW.q rfl (Qt.nilCheck rfl) ?_
  refine LW.q rfl (Qt.fieldAddr0 (by kernel_rfl) rfl) ?_
  first | refine LW.q rfl (Qt.load (by kernel_rfl) rfl rfl) ?_ | refine LW.q rfl (Qt.load (by kernel_rfl) rfl (map_at _ _ _ (by omega))) ?_ | refine LW.q rfl (Qt.load (by kernel_rfl) rfl (flat_cell0 _ _ _ (by intros; rfl) _ (by omega) (by rfl))) ?_ | refine LW.q rfl (Qt.load (by kernel_rfl) rfl (flat_cell _ _ _ (by intros; rfl) _ _ (by omega) (by rfl))) ?_ | refine LW.q rfl (Qt.load (by kernel_rfl) rfl (bytes_at _ _ (by omega))) ?_
  refine LW.q rfl (Qt.len (e := 22) (sz := 1) (by kernel_rfl) rfl) ?_
  refine LW.q rfl (Qt.move rfl) ?_
  refine LW.done ?_
  refine T.block ?_
  refine T.loop (fun mz fz lz => ∃ (f0 : Fr) (k m : Nat) (acc : List UInt8) (q : Option Addr) (d : Nat), (k ≤ R.length ∧ acc = List.replicate 4 0 ++ pgHead R.length mark ++ recBytes ((R.map Rec.b).take k) ∧ m = acc.length ∧ 13 ≤ m) ∧ mz = R.length - k ∧ fz = (upd (upd (upd (upd f0 3 (.slice q m d)) 25 (.slice p R.length c)) 26 (.int .i64 R.length)) 27 (.int .i64 k)) ∧ lz = [rB (.slice q m d) m acc, pgB g p R.length c mark, pgR p R.length c R, recsA R] ++ F) ?_ ?_
  · refine ⟨_, _, ⟨_, 0, 13, List.replicate 4 0 ++ pgHead R.length mark, p2, c2, ⟨Nat.zero_le _, by simp [recBytes], by simp [length_pgHead], by omega⟩, rfl, (updS rfl (updS rfl (updS rfl (updS rfl rfl)))), rfl⟩, Sub.any⟩
  · skip
    rintro mz fz lz ⟨f0, k, m, acc, q, d, ⟨hk, hacc, hm, hm13⟩, hmz, rfl, rfl⟩
    subst mz
    try simp only [List.cons_append, List.nil_append]
    have hml : m = 13 + usedR ((R.map Rec.b).take k) := by rw [hm, hacc]; simp [length_pgHead, length_recBytes]; omega
    have hut := usedR_take (R.map Rec.b) k
    have hus := hok.used
    refine T.seq ?_
    refine T.region ?_
    refine LW.q rfl (Qt.lss rfl rfl) ?_
    refine LW.done ?_
    refine T.seq ?_
    refine T.condP rfl (fun hlt => ?_) (fun hlt => ?_)
    · skip
      obtain ⟨gp, rfl⟩ := hp (by omega)
      have hrl := hok.len (R[k]'(by omega)).b (List.mem_map_of_mem (List.getElem_mem _))
      refine T.skip ?_
      refine T.seq ?_
      refine T.block ?_
      refine T.seq ?_
      refine T.region ?_
      refine LW.q rfl (Qt.index _ (e := 22) (sz := 1) (by kernel_rfl) rfl rfl rfl (by omega)) ?_
      first | refine LW.q rfl (Qt.load (by kernel_rfl) rfl rfl) ?_ | refine LW.q rfl (Qt.load (by kernel_rfl) rfl (map_at _ _ _ (by omega))) ?_ | refine LW.q rfl (Qt.load (by kernel_rfl) rfl (flat_cell0 _ _ _ (by intros; rfl) _ (by omega) (by rfl))) ?_ | refine LW.q rfl (Qt.load (by kernel_rfl) rfl (flat_cell _ _ _ (by intros; rfl) _ _ (by omega) (by rfl))) ?_ | refine LW.q rfl (Qt.load (by kernel_rfl) rfl (bytes_at _ _ (by omega))) ?_
      refine LW.q rfl (Qt.assign rfl) ?_
      refine LW.done ?_
      refine T.region ?_
      refine LW.q rfl (Qt.move rfl) ?_
      refine LW.q rfl (Qt.move rfl) ?_
      refine LW.q rfl (Qt.len (e := 5) (sz := 1) (by kernel_rfl) rfl) ?_
      refine LW.q rfl (Qt.convI (by kernel_rfl) (by kernel_rfl) rfl (wr8_nat _)) ?_
      refine LW.e rfl (Ef.one [_] (e := 5) (sz := 1) (by kernel_rfl) ⟨.int .u8 0, by kernel_rfl, rfl⟩ rfl rfl rfl (by omega) (by omega) ?_)
      intro g35
      refine LW.e rfl (Ef.append Cd.elemB rfl rfl (SrcOf.blk (by kernel_rfl) rfl (by simp [Value.oneCell'])) (by unfold maxLen; omega) (by omega) ?_)
      rintro p3 c3 hp3
      try simp only [List.cons_append, List.nil_append]
      rw [bytesV_one, ← bytesV_append]
      refine LW.q rfl (Qt.move rfl) ?_
      refine LW.e rfl (Ef.append Cd.elemB rfl rfl (SrcOf.rd (m := (R[k]'(by omega)).b.length) ((RdV.rec hro (by omega)).mono (fun w ho => ho.map Sub.any)) (by kernel_rfl) (by simp) one_bytesV) (by unfold maxLen; omega) (by omega) ?_)
      rintro p4 c4 hp4
      try simp only [List.cons_append, List.nil_append]
      rw [← bytesV_append]
      refine LW.q rfl (Qt.assign rfl) ?_
      refine LW.done ?_
      refine T.region ?_
      refine LW.q rfl (Qt.add rfl rfl (wr64 (by omega) (by omega))) ?_
      refine LW.q rfl (Qt.move rfl) ?_
      refine LW.done ?_
      refine ⟨_, ?_, _, ⟨_, k + 1, m + 1 + (R[k]'(by omega)).b.length, (acc ++ [UInt8.ofNat (R[k]'(by omega)).b.length]) ++ (R[k]'(by omega)).b, p4, c4, ⟨by omega, by rw [hacc, List.take_succ_eq_append_getElem (by simp; omega), recBytes_snoc]; simp, by simp; omega, by omega⟩, rfl, (updS rfl (updS rfl (updS rfl (updS rfl rfl)))), rfl⟩, Sub.any⟩
      first | omega | (simp; omega)
    · skip
      have e : k = R.length := by omega
      rw [List.take_of_length_le (by simp; omega)] at hacc hml
      refine T.own (fun w ho => ?_)
      obtain ⟨gq, rfl⟩ := (ho.slice_at (p := q) (m := m) (c := d)).2.1 (by omega)
      clear ho
      refine T.exit ?_
      refine T.seq ?_
      refine T.region ?_
      refine LW.q rfl (Qt.move rfl) ?_
      refine LW.q rfl (Qt.move rfl) ?_
      refine LW.q rfl (Qt.len (e := 5) (sz := 1) (by kernel_rfl) rfl) ?_
      refine LW.q rfl (Qt.sub rfl rfl (wr64 (by omega) (by omega))) ?_
      refine LW.e rfl (Ef.appendZ (m := 256 - m) (ki := .i64) (.int .u8 0) (.int .u8 0) Cd.elemB (by kernel_rfl) (by kernel_rfl) rfl rfl rfl rfl (by omega) (by unfold maxLen; omega) (by omega) ?_)
      rintro p5 c5 hp5
      try simp only [List.cons_append, List.nil_append]
      rw [bytesV_zero, ← bytesV_append, show m + (256 - m) = 256 by omega]
      rw [show acc ++ List.replicate (256 - m) 0 = List.replicate 4 0 ++ pgBody (R.map Rec.b) mark by rw [hacc, pgBody, show 256 - m = 243 - usedR (R.map Rec.b) by omega]; simp]
      obtain ⟨g5, rfl⟩ := hp5 (by omega)
      refine LW.own (fun w ho => ?_)
      have hc5 := ho.cap_at (p := some ⟨g5, 0, none⟩) (m := 256) (c := c5)
      clear ho hp5
      have hbl := length_pgBody (recs := R.map Rec.b) (mark := mark) hus
      refine LW.q rfl (Qt.assign rfl) ?_
      refine LW.done ?_
      refine T.seq ?_
      refine T.region ?_
      refine LW.q rfl (Qt.move rfl) ?_
      refine LW.q rfl (Qt.move rfl) ?_
      refine LW.q rfl (Qt.slice_snn 4 (e := 5) (sz := 1) (by kernel_rfl) rfl rfl rfl (by omega)) ?_
      refine LW.e rfl (Ef.one [_] (e := 22) (sz := 1) (by kernel_rfl) ⟨.slice none 0 0, by kernel_rfl, rfl⟩ rfl rfl rfl (by omega) (by omega) ?_)
      intro g48
      refine LW.e rfl (Ef.callL (Cd.sum B _ _ [pgBody (R.map Rec.b) mark] (PartsV.one (rdv_tail4 (g5 := g5) (c5 := c5) hbl hc5 Sub.any)) (by simp) (by simp [hbl])) Tryd.func50 rfl rfl rfl ?_)
      rintro _ _ ⟨rfl, rfl⟩
      try simp only [List.cons_append, List.nil_append]
      rw [show [pgBody (R.map Rec.b) mark].flatten = pgBody (R.map Rec.b) mark by simp]
      refine LW.q rfl (Qt.convI (by kernel_rfl) (by kernel_rfl) rfl (sumN_nat _)) ?_
      refine LW.e rfl (Ef.callL (Cd.put B _ (.slice none 0 0) [] 0 rfl (sumN (pgBody (R.map Rec.b) mark)) _ 4 rfl (by omega) (RdV.nil _ 0) (by omega)) Tryd.func53 rfl rfl rfl ?_)
      rintro _ _ ⟨p6, c6, rfl, rfl⟩
      try simp only [List.cons_append, List.nil_append]
      refine LW.own (fun w ho => ?_)
      have hp6 : 0 < 4 → ∃ g, p6 = some ⟨g, 0, none⟩ := (ho.slice_at (p := p6) (m := 0 + 4) (c := c6)).2.1
      clear ho
      simp only [Nat.zero_add, List.nil_append]
      refine LW.e rfl (Ef.copy (e := 5) (cs := bytesV (be (sumN (pgBody (R.map Rec.b) mark)) 4)) (src := bytesV (be (sumN (pgBody (R.map Rec.b) mark)) 4)) (by kernel_rfl) rfl rfl (RdV.mono (RdV.rB (length_be _ _) hp6) (fun w ho => ho.map Sub.any)) 4 rfl (by omega) (by rw [List.take_of_length_le (by simp [length_be])]) (by simp [length_be]) one_bytesV (by simp [hbl]) ?_)
      try simp only [List.cons_append, List.nil_append]
      rw [splice_head _ _ (length_be _ _)]
      rw [show be (sumN (pgBody (R.map Rec.b) mark)) 4 ++ pgBody (R.map Rec.b) mark = pgBytes (R.map Rec.b) mark from rfl]
      refine LW.done ?_
      refine T.seq ?_
      refine T.region ?_
      refine LW.q rfl (Qt.move rfl) ?_
      refine LW.q rfl (Qt.assign rfl) ?_
      refine LW.done ?_
      refine T.ret ?_
      exact ⟨.inl rfl, _, _, res [_] rfl ⟨rvT rfl, trivial⟩, ⟨_, _, rfl, rfl⟩, Sub.pg g p c R mark hok⟩
end Go.Proofs.YtjjhbpjbngdlnaaDoor
